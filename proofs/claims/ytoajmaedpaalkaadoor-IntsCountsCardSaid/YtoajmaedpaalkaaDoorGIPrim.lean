/- bits.TrailingZeros64 as it is given beside. -/
import Derived.Test.YtoajmaedpaalkaaDoorGI
import Derived.Test.YtoajmaedpaalkaaDoorGITz
set_option linter.all false
namespace Go.R2D
open Go Go.Proofs Go.Ev

/-- The table is known of memory ahead of all. -/
def TabG [Glo] : Prop := ∃ arr, Glo.g 0 = some arr ∧ ∀ j, j < 64 → arr[j]? = some (.int .u8 (Lib.deBruijn64tab.getD j 0))
theorem TabG.at [Glo] (hT : TabG) {Φ : Phi} {ρ : Rho} {H : Heap} {w : World} (hr : HR Φ ρ H w) : TabIn w := by
  obtain ⟨arr, h1, h2⟩ := hT
  obtain ⟨ty, fz, hw⟩ := hr.fro _ _ (hr.glo _ _ h1)
  intro j hj
  rw [cell_at hw]
  exact h2 j hj
theorem tzP_ok [Glo] (hT : TabG) : CallOk Tryd.prog (fun g args h => if g = 33 then tzP args h else none) := by
  intro f args h r h' hc Φ ρ w vals hr ha
  simp only at hc
  split at hc
  · rename_i hf
    subst hf
    unfold tzP at hc
    split at hc
    · rename_i x
      split at hc
      · rename_i hx
        simp only [Option.some.injEq, Prod.mk.injEq] at hc
        obtain ⟨rfl, rfl⟩ := hc
        obtain ⟨v, rfl, hv⟩ := ARs_one ha
        simp only [AR, CR, FVR] at hv
        subst hv
        have hn : x = ((x.toNat : Nat) : Int) := by omega
        have := tz_ok x.toNat (by omega) w (hT.at hr)
        rw [← hn] at this
        refine this.mono ?_
        rintro e w' ⟨rfl, rfl⟩
        exact ⟨_, Φ, ρ, rfl, Stp.refl hr, by simp only [AR, CR, FVR, ctzI]⟩
      · cases hc
    · cases hc
  · cases hc
theorem primsOk [Glo] (hT : TabG) : PrimOk Tryd.prog prims := fun f p h => by
  unfold prims at h
  split at h
  · cases h; exact tzP_ok hT
  · cases h
end Go.R2D

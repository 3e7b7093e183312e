/- Ev: functions that are given beside: bits.TrailingZeros64. -/
import Derived.Test.YtoajmaedpaalkaaDoorEvClone
import Derived.Lib.TrailingZeros
set_option linter.all false
namespace Go.Ev

def ctzI (x : Int) : Int := (Lib.ctz 64 x.toNat : Int)
def tzP : List A → Heap → Option (A × Heap)
  | [.c (.v (.int .u64 x))], [] => if 0 ≤ x ∧ x < 18446744073709551616 then some (.c (.v (.int .i64 (ctzI x))), []) else none
  | _, _ => none
def tzO (x : Int) : Nat → Option Unit
  | 0 => none
  | _ + 1 => if 0 ≤ x ∧ x < 18446744073709551616 then some () else none
theorem tz_call {P : Program} {cfg : Cfg} {prim : FuncId → Option (List A → Heap → Option (A × Heap))} {f : FuncId} (hp : prim f = some tzP) (x : Int) (k : Nat) : ∀ r : Unit, tzO x k = some r → evCall P cfg prim k f [.c (.v (.int .u64 x))] [] = some (.c (.v (.int .i64 (ctzI x))), []) := by
  intro r h
  cases k with
  | zero => cases h
  | succ k =>
    simp only [tzO] at h
    split at h
    · rename_i hc
      simp only [evCall, hp, tzP]
      rw [if_pos hc]
    · cases h
end Go.Ev

/- LebNumbers -/
import Derived.Test.YtdghpmnhlhhcnaaG1Back
set_option linter.all false
namespace Go.R1
open Go.Proofs Go.Ev

theorem u64_range (x : Int) : 0 ≤ icv .u64 x ∧ icv .u64 x < 18446744073709551616 := by unfold icv; rw [wrap_u64]; omega
theorem i64_range (x : Int) : -9223372036854775808 ≤ IntKind.i64.wrap x ∧ IntKind.i64.wrap x ≤ 9223372036854775807 := by rw [wrap_i64]; omega
theorem i64_add (a b : Int) : -9223372036854775808 ≤ iadd .i64 a b ∧ iadd .i64 a b ≤ 9223372036854775807 := i64_range _
theorem i64_neg (a : Int) : -9223372036854775808 ≤ ineg .i64 a ∧ ineg .i64 a ≤ 9223372036854775807 := i64_range _
theorem u8_range (x : Int) : inR .u8 (icv .u8 x) := by
  unfold icv
  simp only [IntKind.wrap, IntKind.bits, IntKind.signed, inR]
  simp
  omega
theorem nb5 (k : Nat) (hk : 400 ≤ k) {q : Int} (hq : 0 ≤ q) : loopS (law4_LebNumbers.b5 k q) k (-2 : Int) = some (Sum.inl ()) := by
  have := loopS_count (f := law4_LebNumbers.b5 k q) (fun i : Nat => (i : Int) - 2) 5 (Sum.inl ()) ?_ ?_ 5 0 k (by omega) (by omega)
  · exact this
  · simp only [law4_LebNumbers.b5]
    rw [if_neg (by omega)]
  · intro i hi
    simp only [law4_LebNumbers.b5]
    obtain ⟨a1, a2⟩ := u64_range (iadd .i64 (ishl .i64 1 q) ((i : Int) - 2))
    have hs := i64_add (ishl .i64 1 q) ((i : Int) - 2)
    have hn := i64_neg (iadd .i64 (ishl .i64 1 q) ((i : Int) - 2))
    rw [if_pos (by omega), if_pos hq, u_ok (by omega) a1 a2, refu_ok (by omega) a1 a2]
    simp only [Option.bind_some, strEq_self, Bool.not_true, Bool.false_eq_true, if_false]
    rw [s_ok (by omega) hs.1 hs.2, refs_ok (by omega) hs.1 hs.2]
    simp only [Option.bind_some, strEq_self, Bool.not_true, Bool.false_eq_true, if_false]
    rw [s_ok (by omega) hn.1 hn.2, refs_ok (by omega) hn.1 hn.2]
    simp only [Option.bind_some, strEq_self, Bool.not_true, Bool.false_eq_true, if_false]
    rw [iadd64 (by omega) (by omega)]
    congr 2
    omega
theorem nb2 (k : Nat) (hk : 400 ≤ k) : loopS (law4_LebNumbers.b2 k) k (0 : Int) = some (Sum.inl ()) := by
  refine loopS_count (f := law4_LebNumbers.b2 k) (fun i : Nat => (i : Int)) 64 (Sum.inl ()) ?_ ?_ 64 0 k (by omega) (by omega)
  · simp only [law4_LebNumbers.b2]
    rw [if_neg (by omega)]
  · intro i hi
    simp only [law4_LebNumbers.b2]
    rw [if_pos (by omega), nb5 k hk (by omega)]
    simp only [altB]
    rw [iadd_ok (k := .u64) ⟨by omega, by omega⟩]
    rfl
theorem nb21 (k : Nat) {last : Int} {h0 : List Int} (hl : h0.length ≤ 100) : ∀ (d i m : Nat) (h : List Int), i + d = h0.length → h.length = h0.length → By h → d < m → ∃ h', loopS (law4_LebNumbers.b21 k last h0) m ((i : Int), h) = some h' ∧ h'.length = h0.length ∧ By h'
  | 0, i, m, h, hi, hh, hb, hm => by
    obtain ⟨m, rfl⟩ : ∃ j, m = j + 1 := ⟨m - 1, by omega⟩
    exact ⟨h, loopS_last (by simp only [law4_LebNumbers.b21]; rw [if_neg (by omega)]), hh, hb⟩
  | d + 1, i, m, h, hi, hh, hb, hm => by
    obtain ⟨m, rfl⟩ : ∃ j, m = j + 1 := ⟨m - 1, by omega⟩
    have step : law4_LebNumbers.b21 k last h0 ((i : Int), h) = some (.inl (((i + 1 : Nat) : Int), h.set i (icv .u8 (iadd .i64 128 last)))) := by
      simp only [law4_LebNumbers.b21]
      rw [if_pos (by omega), if_pos ⟨by omega, by omega⟩, Int.toNat_natCast, List.getElem?_eq_getElem (by omega)]
      simp only [Option.bind_some]
      rw [iadd64 (a := (i : Int)) (by omega) (by omega)]
      rfl
    rw [loopS_next step]
    refine nb21 k hl d (i + 1) m _ (by omega) (by rw [List.length_set]; exact hh) (fun x hx => ?_) (by omega)
    rcases List.mem_or_eq_of_mem_set hx with hx | rfl
    · exact hb x hx
    · exact u8_range _
theorem nb18 (k : Nat) (hk : 400 ≤ k) {bits : Int} {n : Nat} (hn : 1 ≤ n) (hn2 : n ≤ 11) : ∀ (d i m : Nat) (h : List Int), i + d = 256 → h.length = n → By h → d < m → loopS (law4_LebNumbers.b18 k bits (n : Int)) m ((i : Int), h) = some (Sum.inl ())
  | 0, i, m, h, hi, hh, hb, hm => by
    obtain ⟨m, rfl⟩ : ∃ j, m = j + 1 := ⟨m - 1, by omega⟩
    exact loopS_last (by simp only [law4_LebNumbers.b18]; rw [if_neg (by omega)])
  | d + 1, i, m, h, hi, hh, hb, hm => by
    obtain ⟨m, rfl⟩ : ∃ j, m = j + 1 := ⟨m - 1, by omega⟩
    obtain ⟨h', e1, e2, e3⟩ := nb21 k (last := (i : Int)) (h0 := h) (by omega) h.length 0 k h (by omega) rfl hb (by omega)
    have e4 : isub .i64 (n : Int) 1 = ((n - 1 : Nat) : Int) := by rw [isub64 (by omega) (by omega)]; omega
    have hb2 : By (h'.set (n - 1) (icv .u8 (i : Int))) := fun x hx => by
      rcases List.mem_or_eq_of_mem_set hx with hx | rfl
      · exact e3 x hx
      · exact u8_range _
    have hlen2 : (h'.set (n - 1) (icv .u8 (i : Int))).length = n := by rw [List.length_set]; omega
    have rd : ∀ a : Int, law4_reads.f k (h'.set (n - 1) (icv .u8 (i : Int))) a bits = some true := fun a => reads_ok (by omega) hb2 (by omega)
    have step : law4_LebNumbers.b18 k bits (n : Int) ((i : Int), h) = some (.inl (((i + 1 : Nat) : Int), h'.set (n - 1) (icv .u8 (i : Int)))) := by
      simp only [law4_LebNumbers.b18]
      rw [show ((0 : Nat) : Int) = (0 : Int) from rfl] at e1
      rw [if_pos (by omega), e1]
      simp only [Option.bind_some]
      rw [e4, if_pos ⟨by omega, by omega⟩, Int.toNat_natCast, List.getElem?_eq_getElem (by omega)]
      simp only [Option.bind_some]
      rw [rd, rd, rd, rd]
      simp only [Option.bind_some, Bool.not_true, Bool.false_eq_true, if_false]
      rw [iadd64 (a := (i : Int)) (by omega) (by omega)]
      split <;> rfl
    rw [loopS_next step]
    exact nb18 k hk hn hn2 d (i + 1) m _ (by omega) hlen2 hb2 (by omega)
theorem nb14 (k : Nat) (hk : 400 ≤ k) (bits : Int) : loopS (law4_LebNumbers.b14 k bits) k (1 : Int) = some (Sum.inl ()) := by
  have := loopS_count (f := law4_LebNumbers.b14 k bits) (fun i : Nat => ((i + 1 : Nat) : Int)) 11 (Sum.inl ()) ?_ ?_ 11 0 k (by omega) (by omega)
  · exact this
  · simp only [law4_LebNumbers.b14]
    rw [if_neg (by omega)]
  · intro i hi
    simp only [law4_LebNumbers.b14]
    rw [if_pos (by omega), if_pos ⟨by omega, by omega, room_small (by omega) (by omega)⟩, Int.toNat_natCast]
    have := nb18 k hk (bits := bits) (n := i + 1) (by omega) (by omega) 256 0 k (List.replicate (i + 1) 0) (by omega) (by simp) (fun x hx => by rw [List.eq_of_mem_replicate hx]; exact ⟨by decide, by decide⟩) (by omega)
    rw [show ((0 : Nat) : Int) = (0 : Int) from rfl] at this
    rw [this]
    simp only [altB]
    rw [iadd64 (by omega) (by omega)]
    congr 2
theorem nb11 (k : Nat) (hk : 400 ≤ k) : loopS (law4_LebNumbers.b11 k) k (-1 : Int) = some (Sum.inl ()) := by
  have := loopS_count (f := law4_LebNumbers.b11 k) (fun i : Nat => (i : Int) - 1) 68 (Sum.inl ()) ?_ ?_ 68 0 k (by omega) (by omega)
  · exact this
  · simp only [law4_LebNumbers.b11]
    rw [if_neg (by omega)]
  · intro i hi
    simp only [law4_LebNumbers.b11]
    rw [if_pos (by omega), nb14 k hk]
    simp only [altB]
    rw [iadd64 (by omega) (by omega)]
    congr 2
    omega
theorem LebNumbers {k : Nat} (hk : 500 ≤ k) : law4_LebNumbers.f k = some true := by
  obtain ⟨k, rfl⟩ : ∃ j, k = j + 1 := ⟨k - 1, by omega⟩
  simp only [law4_LebNumbers.f]
  rw [nb2 k (by omega)]
  simp only [altB]
  rw [nb11 k (by omega)]
  simp only
  rw [known_ok (by omega)]
  rfl
end Go.R1

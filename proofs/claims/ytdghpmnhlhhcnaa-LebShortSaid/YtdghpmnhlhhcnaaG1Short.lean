/- LebShort -/
import Derived.Test.YtdghpmnhlhhcnaaG1Leb
set_option linter.all false
namespace Go.R1
open Go.Proofs Go.Ev

theorem short_loop (b : Nat → List Int → Int → Option (Int ⊕ (Unit ⊕ Unit))) (hb : ∀ k r x, b k r x = (if x < (r.length : Int) then (if (0 : Int) ≤ x ∧ x < (r.length : Int) then (r[x.toNat]?.bind fun e => (if (!((decide (e ≥ 128)) == (decide ((iadd .i64 x 1) < (r.length : Int))))) = true then (some (.inr (.inr ()))) else (some (.inl (iadd .i64 x 1))))) else none) else (some (.inr (.inl ())))))
    (k : Nat) {l : List Int} {j : Nat} (hl : l.length = j + 1) (hj : j ≤ 9) (hk : 20 ≤ k) (hx : ∀ i x, l[i]? = some x → 0 ≤ x ∧ x < 256 ∧ (128 ≤ x ↔ i < j)) : loopS (b k l) k 0 = some (Sum.inl ()) := by
  refine loopS_count (fun i : Nat => (i : Int)) l.length (Sum.inl ()) ?_ ?_ l.length 0 k (by omega) (by omega)
  · rw [hb, if_neg (by omega)]
  · intro i hi
    rw [hb, if_pos (by omega), if_pos ⟨by omega, by omega⟩, Int.toNat_natCast, List.getElem?_eq_getElem hi]
    simp only [Option.bind_some]
    obtain ⟨h0, h1, h2⟩ := hx i _ (List.getElem?_eq_getElem hi)
    rw [iadd64 (by omega) (by omega), if_neg]
    · rfl
    · have : decide (l[i] ≥ 128) = decide (((i : Int) + 1) < (l.length : Int)) := by
        rw [decide_eq_decide]; omega
      rw [this]; simp
theorem LebShort {k : Nat} (hk : 50 ≤ k) {n m : Int} (hn : inR .u64 n) (hm : inR .i64 m) : law4_LebShort.f k n m = some true := by
  obtain ⟨h0, h1⟩ := hn
  obtain ⟨h2, h3⟩ := hm
  obtain ⟨k, rfl⟩ : ∃ j, k = j + 1 := ⟨k - 1, by omega⟩
  obtain ⟨i, i9, il, ix, ip, iz⟩ := encU_law h0 (by omega)
  obtain ⟨j, j9, jl, jx, jz, jp⟩ := encS_law h2 h3
  simp only [law4_LebShort.f]
  rw [u_ok (by omega) h0 (by omega)]
  simp only [Option.bind_some]
  rw [s_ok (by omega) h2 h3]
  simp only [Option.bind_some]
  rw [if_neg (by omega), if_neg (by omega), if_neg (by omega), if_neg (by omega)]
  rw [short_loop law4_LebShort.b5 (fun _ _ _ => rfl) k il i9 (by omega) ix]
  simp only [altB]
  rw [short_loop law4_LebShort.b11 (fun _ _ _ => rfl) k jl j9 (by omega) jx]
  simp only []
  have e1 : icv .u64 (imul .i64 7 (isub .i64 ((encU n).length : Int) 1)) = ((7 * i : Nat) : Int) := by
    rw [isub64 (by omega) (by omega), imul64 (by omega) (by omega), icvu64 (by omega) (by omega)]; omega
  have e2 : icv .u64 (imul .i64 7 ((encU n).length : Int)) = ((7 * (i + 1) : Nat) : Int) := by
    rw [imul64 (by omega) (by omega), icvu64 (by omega) (by omega)]; omega
  have e3 : icv .u64 (isub .i64 (imul .i64 7 ((encS m).length : Int)) 1) = ((7 * j + 6 : Nat) : Int) := by
    rw [imul64 (by omega) (by omega), isub64 (by omega) (by omega), icvu64 (by omega) (by omega)]; omega
  rw [e1, e2, e3]
  have q1 : i + 1 < 10 → ishr .u64 n ((7 * (i + 1) : Nat) : Int) = 0 := by
    intro h
    rw [ishr_ok (k := .u64) (by simp only [IntKind.bits]; omega)]; exact iz
  have first : (if ((encU n).length : Int) > 1 then (if (0 : Int) ≤ ((7 * i : Nat) : Int) then (if ishr .u64 n ((7 * i : Nat) : Int) = 0 then (some (.inr false)) else (if ((encU n).length : Int) < 10 then (if (0 : Int) ≤ ((7 * (i + 1) : Nat) : Int) then (if ishr .u64 n ((7 * (i + 1) : Nat) : Int) = 0 then (some (.inl ())) else (some (.inr false))) else none) else (some (.inl ())))) else none)
      else (if ((encU n).length : Int) < 10 then (if (0 : Int) ≤ ((7 * (i + 1) : Nat) : Int) then (if ishr .u64 n ((7 * (i + 1) : Nat) : Int) = 0 then (some (.inl ())) else (some (.inr false))) else none) else (some (.inl ())))) = (some (.inl ()) : Option (Unit ⊕ Bool)) := by
    have tail : (if ((encU n).length : Int) < 10 then (if (0 : Int) ≤ ((7 * (i + 1) : Nat) : Int) then (if ishr .u64 n ((7 * (i + 1) : Nat) : Int) = 0 then (some (.inl ())) else (some (.inr false))) else none) else (some (.inl ()))) = (some (.inl ()) : Option (Unit ⊕ Bool)) := by
      by_cases h : ((encU n).length : Int) < 10
      · rw [if_pos h, if_pos (by omega), if_pos (q1 (by omega))]
      · rw [if_neg h]
    rw [tail]
    by_cases h : ((encU n).length : Int) > 1
    · rw [if_pos h, if_pos (by omega), if_neg]
      rw [ishr_ok (k := .u64) (by simp only [IntKind.bits]; omega)]; exact ip (by omega)
    · rw [if_neg h]
  have second : (if ((7 * j + 6 : Nat) : Int) < 63 then (if (0 : Int) ≤ ((7 * j + 6 : Nat) : Int) then (if ishr .i64 m ((7 * j + 6 : Nat) : Int) = 0 then (some (.inl ())) else (if (0 : Int) ≤ ((7 * j + 6 : Nat) : Int) then (if ishr .i64 m ((7 * j + 6 : Nat) : Int) = (-1) then (some (.inl ())) else (some (.inr false))) else none)) else none) else (some (.inl ()))) = (some (.inl ()) : Option (Unit ⊕ Bool)) := by
    by_cases h : ((7 * j + 6 : Nat) : Int) < 63
    · rw [if_pos h, if_pos (by omega), ishr_ok (k := .i64) (by simp only [IntKind.bits]; omega)]
      rcases jz with jz | jz
      · rw [if_pos jz]
      · rw [if_neg (by omega), if_pos (by omega), if_pos jz]
    · rw [if_neg h]
  rw [first, second]
  simp only [segB]
  rw [known_ok (by omega)]
  simp only [Option.bind_some]
  by_cases h : ((encS m).length : Int) = 1
  · rw [if_pos h]
  · rw [if_neg h]
    obtain ⟨i', rfl⟩ : ∃ i', j = i' + 1 := ⟨j - 1, by omega⟩
    obtain ⟨p1, p2⟩ := jp i' rfl
    have e4 : isub .u64 ((7 * (i' + 1) + 6 : Nat) : Int) 7 = ((7 * i' + 6 : Nat) : Int) := by
      rw [isub_ok (k := .u64) (by simp only [inR]; omega)]; omega
    rw [e4, if_pos (by omega), ishr_ok (k := .i64) (by simp only [IntKind.bits]; omega), if_neg p1, if_pos (by omega), if_neg p2]
theorem primsOk : PrimOk Try.prog prims := fun f p h => by cases h
end Go.R1

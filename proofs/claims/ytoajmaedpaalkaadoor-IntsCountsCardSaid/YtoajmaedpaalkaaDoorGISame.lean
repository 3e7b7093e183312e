/- Ints: what the document counts. -/
import Derived.Test.YtoajmaedpaalkaaDoorGICnt
set_option linter.all false
namespace Go.R2D
open Go Go.Ev
set_option maxRecDepth 100000

def bitI (a : Int) (i : Nat) : Int := a / 2 ^ i % 2
theorem bit_ok (a : Int) {i : Nat} (h : i ≤ 64) : iand .u64 (ishr .u64 a (i : Int)) 1 = bitI a i := by
  rw [shr_u a h]
  have := iand_mask (k := .u64) (n := a / 2 ^ i) (m := 1) (j := 1) (by decide) (by decide)
  rw [this]; rfl
theorem segB_in {O α : Type} {x : Option (O ⊕ α)} {t : O → Option α} {a : α} (h : x = some (.inr a)) : segB x t = some a := by rw [h]; rfl
/-- One round: is there a one at the place? -/
theorem round_first {a n : Int} (i : Int) (q : Prop) [Decidable q] (at_ : Int) (hat : 0 ≤ at_) (hq : (iand .u64 (ishr .u64 a at_) 1 = 1) ↔ q) (n1 i1 : Int) (h1 : iadd .u64 n 1 = n1) (h2 : iadd .i64 i 1 = i1) :
    (segB (segB (some (.inl at_) : Option (Int ⊕ (Int ⊕ ((Int × Int) ⊕ (Int ⊕ Int))))) (fun at61 => (if (0 : Int) ≤ at61 then (segB (if (iand .u64 (ishr .u64 a at61) 1) = 1 then (some (.inr (.inr (.inr (.inr n))))) else (some (.inl ())) : Option (Unit ⊕ (Int ⊕ ((Int × Int) ⊕ (Int ⊕ Int))))) (fun _ => (some (.inl (iadd .u64 n 1))))) else none))) (fun n60 => (some (.inl (n60, (iadd .i64 i 1))))) : Option ((Int × Int) ⊕ (Int ⊕ Int)))
      = if q then some (.inr (.inr n)) else some (.inl (n1, i1)) := by
  by_cases h : q
  · rw [if_pos h]
    refine segB_in ?_
    refine segB_to (o := at_) rfl ?_
    rw [if_pos hat]
    refine segB_in ?_
    rw [if_pos (hq.2 h)]
  · rw [if_neg h]
    refine segB_to (o := n1) ?_ (by rw [h2])
    refine segB_to (o := at_) rfl ?_
    rw [if_pos hat]
    refine segB_to (o := ()) ?_ (by rw [h1])
    rw [if_neg (mt hq.1 h)]
theorem step0 (k : Nat) {a : Int} {W i : Nat} (hW : Width W) (hi : i < W) : ref1_counts.b3 k 0 a (W : Int) ((i : Int), (i : Int)) = if bitI a (W - 1 - i) = 1 then some (.inr (.inr (i : Int))) else some (.inl (((i + 1 : Nat) : Int), ((i + 1 : Nat) : Int))) := by
  have hp := hW.p
  have hm := hW.m
  have e1 : icv .u64 (isub .i64 (isub .i64 (W : Int) 1) (i : Int)) = ((W - 1 - i : Nat) : Int) := by
    rw [isub64 (a := (W : Int)) (b := 1) (by omega) (by omega), isub64 (by omega) (by omega), icvu64 (by omega) (by omega)]; omega
  have := round_first (a := a) (n := (i : Int)) (i : Int) (bitI a (W - 1 - i) = 1) ((W - 1 - i : Nat) : Int) (by omega) (by rw [bit_ok a (by omega)]) _ _ (iaddN (a := i) (b := 1) (by omega)) (iadd64 (by omega) (by omega))
  have e : ref1_counts.b3 k 0 a (W : Int) ((i : Int), (i : Int)) = if (i : Int) < (W : Int) then (segB (segB (some (.inl (icv .u64 (isub .i64 (isub .i64 (W : Int) 1) (i : Int)))) : Option (Int ⊕ (Int ⊕ ((Int × Int) ⊕ (Int ⊕ Int))))) (fun at61 => (if (0 : Int) ≤ at61 then (segB (if (iand .u64 (ishr .u64 a at61) 1) = 1 then (some (.inr (.inr (.inr (.inr (i : Int)))))) else (some (.inl ())) : Option (Unit ⊕ (Int ⊕ ((Int × Int) ⊕ (Int ⊕ Int))))) (fun _ => (some (.inl (iadd .u64 (i : Int) 1))))) else none))) (fun n60 => (some (.inl (n60, (iadd .i64 (i : Int) 1))))) : Option ((Int × Int) ⊕ (Int ⊕ Int))) else some (.inr (.inl (i : Int))) := rfl
  rw [e, if_pos (by omega), e1]
  exact this
theorem step1 (k : Nat) {a : Int} {W i : Nat} (hW : Width W) (hi : i < W) : ref1_counts.b3 k 1 a (W : Int) ((i : Int), (i : Int)) = if bitI a i = 1 then some (.inr (.inr (i : Int))) else some (.inl (((i + 1 : Nat) : Int), ((i + 1 : Nat) : Int))) := by
  have hp := hW.p
  have hm := hW.m
  have e1 : icv .u64 (i : Int) = (i : Int) := icvu64 (a := (i : Int)) (by omega) (by omega)
  have := round_first (a := a) (n := (i : Int)) (i : Int) (bitI a i = 1) (i : Int) (by omega) (by rw [bit_ok a (by omega)]) _ _ (iaddN (a := i) (b := 1) (by omega)) (iadd64 (by omega) (by omega))
  have e : ref1_counts.b3 k 1 a (W : Int) ((i : Int), (i : Int)) = if (i : Int) < (W : Int) then (segB (segB (some (.inl (icv .u64 (i : Int))) : Option (Int ⊕ (Int ⊕ ((Int × Int) ⊕ (Int ⊕ Int))))) (fun at61 => (if (0 : Int) ≤ at61 then (segB (if (iand .u64 (ishr .u64 a at61) 1) = 1 then (some (.inr (.inr (.inr (.inr (i : Int)))))) else (some (.inl ())) : Option (Unit ⊕ (Int ⊕ ((Int × Int) ⊕ (Int ⊕ Int))))) (fun _ => (some (.inl (iadd .u64 (i : Int) 1))))) else none))) (fun n60 => (some (.inl (n60, (iadd .i64 (i : Int) 1))))) : Option ((Int × Int) ⊕ (Int ⊕ Int))) else some (.inr (.inl (i : Int))) := rfl
  rw [e, if_pos (by omega), e1]
  exact this
theorem step2 (k : Nat) {a : Int} {W i n : Nat} (hW : Width W) (hi : i < W) (hn : n < 1000) : ref1_counts.b3 k 2 a (W : Int) ((n : Int), (i : Int)) = some (.inl (((if bitI a i = 1 then n + 1 else n : Nat) : Int), ((i + 1 : Nat) : Int))) := by
  have hp := hW.p
  have hm := hW.m
  have e1 : icv .u64 (i : Int) = (i : Int) := icvu64 (a := (i : Int)) (by omega) (by omega)
  have e : ref1_counts.b3 k 2 a (W : Int) ((n : Int), (i : Int)) = if (i : Int) < (W : Int) then (segB (segB (some (.inl (icv .u64 (i : Int))) : Option (Int ⊕ (Int ⊕ ((Int × Int) ⊕ (Int ⊕ Int))))) (fun at61 => (if (0 : Int) ≤ at61 then (segB (some (.inl ()) : Option (Unit ⊕ (Int ⊕ ((Int × Int) ⊕ (Int ⊕ Int))))) (fun _ => (if (iand .u64 (ishr .u64 a at61) 1) = 1 then (some (.inl (iadd .u64 (n : Int) 1))) else (some (.inl (n : Int)))))) else none))) (fun n60 => (some (.inl (n60, (iadd .i64 (i : Int) 1))))) : Option ((Int × Int) ⊕ (Int ⊕ Int))) else some (.inr (.inl (n : Int))) := rfl
  rw [e, if_pos (by omega), e1]
  refine segB_to (o := ((if bitI a i = 1 then n + 1 else n : Nat) : Int)) ?_ (by rw [iadd64 (by omega) (by omega)]; rfl)
  refine segB_to (o := (i : Int)) rfl ?_
  rw [if_pos (by omega)]
  refine segB_to (o := ()) rfl ?_
  rw [bit_ok a (by omega)]
  by_cases hb : bitI a i = 1
  · rw [if_pos hb, if_pos hb, show iadd .u64 (n : Int) 1 = ((n + 1 : Nat) : Int) from iaddN (a := n) (b := 1) (by omega)]
  · rw [if_neg hb, if_neg hb]
theorem cnt_end (k : Nat) (k1 a : Int) (W : Nat) (n : Int) : ref1_counts.b3 k k1 a (W : Int) (n, (W : Int)) = some (.inr (.inl n)) := by
  simp only [ref1_counts.b3]
  rw [if_neg (by omega)]
/-- The first place. -/
theorem first_ok {k : Nat} {k1 a : Int} {W z : Nat} {P : Nat → Prop} [DecidablePred P] (hk : W + 1 < k) (step : ∀ i, i < W → ref1_counts.b3 k k1 a (W : Int) ((i : Int), (i : Int)) = if P i then some (.inr (.inr (i : Int))) else some (.inl (((i + 1 : Nat) : Int), ((i + 1 : Nat) : Int))))
    (hz : z ≤ W) (h0 : ∀ i, i < z → ¬ P i) (h1 : z < W → P z) : ref1_counts.f (k + 1) k1 a (W : Int) = some (z : Int) := by
  simp only [ref1_counts.f]
  have := loopS_count (f := ref1_counts.b3 k k1 a (W : Int)) (fun i : Nat => ((i : Int), (i : Int))) z (if z < W then Sum.inr (z : Int) else Sum.inl (z : Int)) ?_ ?_ z 0 k (by omega) (by omega)
  · have h : loopS (ref1_counts.b3 k k1 a (W : Int)) k ((0 : Int), (0 : Int)) = some (if z < W then Sum.inr (z : Int) else Sum.inl (z : Int)) := this
    rw [h]
    by_cases hlt : z < W
    · rw [if_pos hlt]; rfl
    · rw [if_neg hlt]; rfl
  · by_cases hlt : z < W
    · rw [step z hlt, if_pos (h1 hlt), if_pos hlt]
    · have : z = W := by omega
      subst this
      rw [if_neg hlt]
      exact cnt_end k k1 a z _
  · intro i hi
    rw [step i (by omega), if_neg (h0 i hi)]
theorem bit_high {a : Int} {r i : Nat} (h0 : 0 ≤ a) (h : a < 2 ^ r) (hi : r ≤ i) : bitI a i = 0 := by
  unfold bitI
  have q : (2 : Int) ^ r ≤ 2 ^ i := pow2_le hi
  rw [Int.ediv_eq_zero_of_lt h0 (by omega)]; rfl
theorem bit_top {a : Int} {r : Nat} (h : a < 2 ^ r) (hr : 0 < r) (h1 : 2 ^ (r - 1) ≤ a) : bitI a (r - 1) = 1 := by
  unfold bitI
  have p := pow_pos (r - 1)
  have e : (2 : Int) ^ r = 2 * 2 ^ (r - 1) := by rw [show r = (r - 1) + 1 from by omega, Int.pow_succ]; simp; omega
  have a1 : a / 2 ^ (r - 1) < 2 := (Int.ediv_lt_iff_lt_mul p).2 (by omega)
  have a2 : 1 ≤ a / 2 ^ (r - 1) := (Int.le_ediv_iff_mul_le p).2 (by omega)
  omega
theorem bit_odd {m : Int} {c : Nat} : bitI (2 ^ c * (2 * m + 1)) c = 1 := by
  unfold bitI
  rw [Int.mul_comm, Int.mul_ediv_cancel _ (Int.ne_of_gt (pow_pos c))]
  omega
theorem bit_even {m : Int} {c i : Nat} (hi : i < c) : bitI (2 ^ c * (2 * m + 1)) i = 0 := by
  unfold bitI
  have e : (2 : Int) ^ c * (2 * m + 1) = (2 * (2 ^ (c - 1 - i) * (2 * m + 1))) * 2 ^ i := by
    rw [show c = 1 + (c - 1 - i) + i from by omega, Int.pow_add, Int.pow_add]
    rw [show 1 + (c - 1 - i) + i - 1 - i = c - 1 - i from by omega]
    rw [Int.pow_one, Int.mul_assoc, Int.mul_assoc, Int.mul_assoc, Int.mul_assoc, Int.mul_comm (2 ^ i)]
  rw [e, Int.mul_ediv_cancel _ (Int.ne_of_gt (pow_pos i))]
  omega
theorem rc_0 {k : Nat} (hk : 70 ≤ k) {W : Nat} (hW : Width W) {x : Int} (h0 : 0 ≤ x) {r : Nat} (g1 : r ≤ W) (g2 : x < 2 ^ r) (g3 : 0 < r → 2 ^ (r - 1) ≤ x) : ref1_counts.f (k + 1) 0 x (W : Int) = some ((W - r : Nat) : Int) := by
  have hm := hW.m
  refine first_ok (P := fun i => bitI x (W - 1 - i) = 1) (by omega) (fun i hi => step0 k hW hi) (by omega) (fun i hi => ?_) (fun hz => ?_)
  · rw [bit_high h0 g2 (by omega)]; decide
  · have := bit_top g2 (by omega) (g3 (by omega))
    rw [show W - 1 - (W - r) = r - 1 from by omega]
    exact this
theorem rc_1 {k : Nat} (hk : 70 ≤ k) {W : Nat} (hW : Width W) {x : Int} {c : Nat} (g1 : c ≤ W) (g2 : x = 0 → c = W) (g3 : x ≠ 0 → c < W ∧ ∃ m : Int, 0 ≤ m ∧ x = 2 ^ c * (2 * m + 1)) : ref1_counts.f (k + 1) 1 x (W : Int) = some (c : Int) := by
  have hm := hW.m
  refine first_ok (P := fun i => bitI x i = 1) (by omega) (fun i hi => step1 k hW hi) g1 (fun i hi => ?_) (fun hz => ?_)
  · by_cases hx : x = 0
    · rw [hx]; unfold bitI; rw [Int.zero_ediv]; decide
    · obtain ⟨_, m, _, e⟩ := g3 hx
      rw [e, bit_even hi]; decide
  · by_cases hx : x = 0
    · have := g2 hx; omega
    · obtain ⟨_, m, _, e⟩ := g3 hx
      rw [e]; exact bit_odd
theorem pc_snoc (i x : Nat) : pc (i + 1) x = pc i x + x / 2 ^ i % 2 := by
  rw [pc_add i 1 x]; simp [pc]
theorem pc_wide {W : Nat} (hW : W ≤ 64) {x : Nat} (h : x < 2 ^ W) : pc 64 x = pc W x := by
  have z : ∀ w, pc w 0 = 0 := fun w => by induction w with
    | zero => rfl
    | succ w ih => simp [pc, ih]
  rw [show 64 = W + (64 - W) from by omega, pc_add, Nat.div_eq_of_lt h, z, Nat.add_zero]
theorem bitN (x i : Nat) : bitI (x : Int) i = ((x / 2 ^ i % 2 : Nat) : Int) := by unfold bitI; push_cast; rfl
theorem rc_2 {k : Nat} (hk : 70 ≤ k) {W : Nat} (hW : Width W) (x : Nat) : ref1_counts.f (k + 1) 2 (x : Int) (W : Int) = some ((pc W x : Nat) : Int) := by
  have hm := hW.m
  simp only [ref1_counts.f]
  have := loopS_count (f := ref1_counts.b3 k 2 (x : Int) (W : Int)) (fun i : Nat => (((pc i x : Nat) : Int), (i : Int))) W (Sum.inl ((pc W x : Nat) : Int)) ?_ ?_ W 0 k (by omega) (by omega)
  · have h : loopS (ref1_counts.b3 k 2 (x : Int) (W : Int)) k ((0 : Int), (0 : Int)) = some (Sum.inl ((pc W x : Nat) : Int)) := this
    rw [h]; rfl
  · exact cnt_end k 2 _ W _
  · intro i hi
    have := pc_le i x
    rw [step2 k hW hi (by omega), bitN, pc_snoc]
    have : x / 2 ^ i % 2 < 2 := Nat.mod_lt _ (by decide)
    congr 4
    split <;> omega
theorem w32 : Width 32 := ⟨by decide, by decide⟩
theorem w64 : Width 64 := ⟨by decide, by decide⟩
end Go.R2D

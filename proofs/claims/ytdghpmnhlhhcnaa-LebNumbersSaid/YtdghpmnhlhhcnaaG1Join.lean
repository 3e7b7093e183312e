/- leb.joined: what groups are together. -/
import Derived.Test.YtdghpmnhlhhcnaaG1Read
set_option linter.all false
namespace Go.R1
open Go.Ev

theorem wrap_u64 (n : Int) : IntKind.u64.wrap n = n % 18446744073709551616 := by
  simp [IntKind.wrap, IntKind.bits, IntKind.signed]
theorem wrap_i64 (n : Int) : IntKind.i64.wrap n = (n + 9223372036854775808) % 18446744073709551616 - 9223372036854775808 := by
  simp only [IntKind.wrap, IntKind.bits, IntKind.signed]
  simp
  omega
def valL : List Int → Int
  | [] => 0
  | x :: r => x % 128 + 128 * valL r
theorem valL_nonneg : ∀ l : List Int, 0 ≤ valL l
  | [] => Int.le_refl _
  | x :: r => by have := valL_nonneg r; simp only [valL]; omega
theorem valL_lt : ∀ l : List Int, valL l < 128 ^ l.length
  | [] => by simp [valL]
  | x :: r => by have := valL_lt r; simp only [valL, List.length_cons, Int.pow_succ]; omega
theorem valL_snoc : ∀ (l : List Int) (x : Int), valL (l ++ [x]) = valL l + x % 128 * 128 ^ l.length
  | [], x => by simp [valL]
  | y :: r, x => by
    simp only [List.cons_append, valL, valL_snoc r x, List.length_cons, Int.pow_succ]
    rw [Int.mul_add, ← Int.add_assoc]
    congr 1
    rw [← Int.mul_assoc, Int.mul_comm 128 (x % 128), Int.mul_assoc, Int.mul_comm 128]
/-- Two numbers, one of which has its lowest bits alone, the other one none of them. -/
theorem or_apart (w j : Nat) (hj : j ≤ w) {a y : Int} (h0 : 0 ≤ a) (h1 : a < 2 ^ j) (hy : 0 ≤ y) : ((BitVec.ofInt w a ||| BitVec.ofInt w (y * 2 ^ j)).toNat : Int) = (a + y * 2 ^ j) % 2 ^ w := by
  obtain ⟨a, rfl⟩ : ∃ n : Nat, a = n := ⟨a.toNat, by omega⟩
  obtain ⟨y, rfl⟩ : ∃ n : Nat, y = n := ⟨y.toNat, by omega⟩
  have h1' : a < 2 ^ j := by exact_mod_cast h1
  have hle : 2 ^ j ≤ 2 ^ w := Nat.pow_le_pow_right (by decide) hj
  have e1 : (BitVec.ofInt w (a : Int)).toNat = a := by
    rw [BitVec.ofInt_natCast, BitVec.toNat_ofNat, Nat.mod_eq_of_lt (by omega)]
  have e2 : (BitVec.ofInt w ((y : Int) * 2 ^ j)).toNat = 2 ^ j * (y % 2 ^ (w - j)) := by
    have : ((y : Int) * 2 ^ j) = ((y * 2 ^ j : Nat) : Int) := by push_cast; rfl
    rw [this, BitVec.ofInt_natCast, BitVec.toNat_ofNat]
    have hw : 2 ^ w = 2 ^ (w - j) * 2 ^ j := by rw [← Nat.pow_add, show w - j + j = w from by omega]
    rw [hw, Nat.mul_mod_mul_right, Nat.mul_comm]
  rw [BitVec.toNat_or, e1, e2, Nat.or_comm, ← Nat.two_pow_add_eq_or_of_lt h1']
  have hlt : 2 ^ j * (y % 2 ^ (w - j)) + a < 2 ^ w := by
    have hw : 2 ^ w = 2 ^ j * 2 ^ (w - j) := by rw [← Nat.pow_add, show j + (w - j) = w from by omega]
    have hm : y % 2 ^ (w - j) < 2 ^ (w - j) := Nat.mod_lt _ (Nat.two_pow_pos _)
    have : 2 ^ j * (y % 2 ^ (w - j) + 1) ≤ 2 ^ j * 2 ^ (w - j) := Nat.mul_le_mul_left _ hm
    rw [Nat.mul_add, Nat.mul_one] at this
    omega
  have key : (a + y * 2 ^ j) % 2 ^ w = 2 ^ j * (y % 2 ^ (w - j)) + a := by
    have hw : 2 ^ w = 2 ^ j * 2 ^ (w - j) := by rw [← Nat.pow_add, show j + (w - j) = w from by omega]
    have hd : y = 2 ^ (w - j) * (y / 2 ^ (w - j)) + y % 2 ^ (w - j) := (Nat.div_add_mod _ _).symm
    have : a + y * 2 ^ j = (2 ^ j * (y % 2 ^ (w - j)) + a) + 2 ^ w * (y / 2 ^ (w - j)) := by
      rw [hw]
      calc a + y * 2 ^ j = a + (2 ^ (w - j) * (y / 2 ^ (w - j)) + y % 2 ^ (w - j)) * 2 ^ j := by rw [← hd]
        _ = _ := by
          rw [Nat.add_mul, Nat.mul_comm (2 ^ (w - j) * (y / 2 ^ (w - j))), ← Nat.mul_assoc, Nat.mul_comm (y % 2 ^ (w - j))]
          omega
    rw [this, Nat.add_mul_mod_self_left, Nat.mod_eq_of_lt hlt]
  have := congrArg (fun n : Nat => (n : Int)) key
  push_cast at this ⊢
  rw [this]
theorem ofInt_wrap (k : IntKind) (x : Int) : BitVec.ofInt k.bits (k.wrap x) = BitVec.ofInt k.bits x := by
  apply BitVec.eq_of_toNat_eq
  rw [BitVec.toNat_ofInt, BitVec.toNat_ofInt]
  congr 1
  cases k <;> simp only [IntKind.wrap, IntKind.bits, IntKind.signed] <;> simp <;> omega
theorem wrap_mod (k : IntKind) {x : Int} : k.wrap (x % 2 ^ k.bits) = k.wrap x := by
  cases k <;> simp only [IntKind.wrap, IntKind.bits, IntKind.signed] <;> simp
/-- One group more. -/
theorem ior_group {k : IntKind} {j : Nat} (hj : j ≤ k.bits) {a y : Int} (h0 : 0 ≤ a) (h1 : a < 2 ^ j) (hy : 0 ≤ y) : ior k (k.wrap a) (ishl k y (j : Int)) = k.wrap (a + y * 2 ^ j) := by
  unfold ior ishl
  rw [Int.toNat_natCast, Nat.min_eq_left hj, ofInt_wrap, ofInt_wrap, or_apart k.bits j hj h0 h1 hy, wrap_mod]
theorem and127 (k : IntKind) (hk : 7 < k.bits) (e : Int) : iand k e 127 = e % 128 := iand_mask (j := 7) (by decide) hk
theorem take_snoc {l : List Int} {i : Nat} (h : i < l.length) : l.take (i + 1) = l.take i ++ [l[i]] := by rw [List.take_succ_eq_append_getElem h]
theorem pow128 (i : Nat) : (128 : Int) ^ i = 2 ^ (7 * i) := by rw [Int.pow_mul]; rfl
/-- A loop that joins groups, in one kind of numbers. -/
theorem join_loop {kd : IntKind} (hkd : kd = .u64 ∨ kd = .i64) (f : Int × Int → Option ((Int × Int) ⊕ Int)) {l : List Int} (hl : l.length ≤ 10)
    (hf : ∀ (n : Int) (i : Nat) (h : i < l.length), f (n, (i : Int)) = some (.inl (ior kd n (ishl kd (l[i] % 128) ((7 * i : Nat) : Int)), ((i + 1 : Nat) : Int)))) (hs : ∀ n : Int, f (n, (l.length : Int)) = some (.inr n)) :
    ∀ (d i m : Nat), i + d = l.length → d < m → loopS f m (kd.wrap (valL (l.take i)), (i : Int)) = some (kd.wrap (valL l))
  | 0, i, m, hi, hm => by
    obtain ⟨m, rfl⟩ : ∃ j, m = j + 1 := ⟨m - 1, by omega⟩
    have : i = l.length := by omega
    subst this
    rw [List.take_length, loopS_last (hs _)]
  | d + 1, i, m, hi, hm => by
    obtain ⟨m, rfl⟩ : ∃ j, m = j + 1 := ⟨m - 1, by omega⟩
    have hlt : i < l.length := by omega
    rw [loopS_next (hf _ i hlt)]
    have hb : 7 * i ≤ kd.bits := by rcases hkd with rfl | rfl <;> simp only [IntKind.bits] <;> omega
    have hlen : (l.take i).length = i := by rw [List.length_take]; omega
    rw [ior_group hb (valL_nonneg _) (by have := valL_lt (l.take i); rw [hlen, pow128] at this; exact this) (Int.emod_nonneg _ (by decide))]
    have : valL (l.take i) + l[i] % 128 * 2 ^ (7 * i) = valL (l.take (i + 1)) := by rw [take_snoc hlt, valL_snoc, hlen, pow128]
    rw [this]
    exact join_loop hkd f hl hf hs d (i + 1) m (by omega) (by omega)
theorem joined_ok {k : Nat} (hk : 20 ≤ k) {l : List Int} (hb : By l) (hl : l.length ≤ 10) : leb_joined.f k l = some (IntKind.u64.wrap (valL l)) := by
  obtain ⟨k, rfl⟩ : ∃ j, k = j + 1 := ⟨k - 1, by omega⟩
  simp only [leb_joined.f]
  have := join_loop (kd := .u64) (.inl rfl) (leb_joined.b3 k l) hl ?_ ?_ l.length 0 k (by omega) (by omega)
  · have e : (IntKind.u64.wrap (valL (l.take 0)), ((0 : Nat) : Int)) = ((0 : Int), (0 : Int)) := by simp [valL, wrap_u64]
    rw [e] at this
    rw [this]; rfl
  · intro n i h
    simp only [leb_joined.b3]
    rw [if_pos (by omega), at?_nat, List.getElem?_eq_getElem h]
    simp only [Option.bind_some]
    have e1 : imul .i64 7 (i : Int) = ((7 * i : Nat) : Int) := by rw [imul64 (by omega) (by omega)]; omega
    rw [e1, if_pos (by omega), and127 .u8 (by decide), icvu64 (by omega) (by omega), iadd64 (by omega) (by omega)]
    rfl
  · intro n
    simp only [leb_joined.b3]
    rw [if_neg (by omega)]
theorem refU_join {k : Nat} (hk : 20 ≤ k) {l : List Int} (hl : l.length ≤ 10) : loopS (ref4_ReadU.b11 k l) k ((0 : Int), (0 : Int)) = some (IntKind.u64.wrap (valL l)) := by
  have := join_loop (kd := .u64) (.inl rfl) (ref4_ReadU.b11 k l) hl ?_ ?_ l.length 0 k (by omega) (by omega)
  · have e : (IntKind.u64.wrap (valL (l.take 0)), ((0 : Nat) : Int)) = ((0 : Int), (0 : Int)) := by simp [valL, wrap_u64]
    rw [e] at this
    exact this
  · intro n i h
    simp only [ref4_ReadU.b11]
    rw [if_pos (by omega), at?_nat, List.getElem?_eq_getElem h]
    simp only [Option.bind_some]
    have e1 : icv .u64 (imul .i64 7 (i : Int)) = ((7 * i : Nat) : Int) := by rw [imul64 (by omega) (by omega), icvu64 (by omega) (by omega)]; omega
    rw [e1, if_pos (by omega), and127 .u8 (by decide), icvu64 (by omega) (by omega), iadd64 (by omega) (by omega)]
    rfl
  · intro n
    simp only [ref4_ReadU.b11]
    rw [if_neg (by omega)]
theorem refS_join {k : Nat} (hk : 20 ≤ k) {l : List Int} (hl : l.length ≤ 10) : loopS (ref4_ReadS.b15 k l) k ((0 : Int), (0 : Int)) = some (IntKind.i64.wrap (valL l)) := by
  have := join_loop (kd := .i64) (.inr rfl) (ref4_ReadS.b15 k l) hl ?_ ?_ l.length 0 k (by omega) (by omega)
  · have e : (IntKind.i64.wrap (valL (l.take 0)), ((0 : Nat) : Int)) = ((0 : Int), (0 : Int)) := by simp [valL, wrap_i64]
    rw [e] at this
    exact this
  · intro n i h
    simp only [ref4_ReadS.b15]
    rw [if_pos (by omega), at?_nat, List.getElem?_eq_getElem h]
    simp only [Option.bind_some]
    have e1 : icv .u64 (imul .i64 7 (i : Int)) = ((7 * i : Nat) : Int) := by rw [imul64 (by omega) (by omega), icvu64 (by omega) (by omega)]; omega
    rw [e1, if_pos (by omega), and127 .u8 (by decide), icv64 (by omega) (by omega), iadd64 (by omega) (by omega)]
    rfl
  · intro n
    simp only [ref4_ReadS.b15]
    rw [if_neg (by omega)]
end Go.R1

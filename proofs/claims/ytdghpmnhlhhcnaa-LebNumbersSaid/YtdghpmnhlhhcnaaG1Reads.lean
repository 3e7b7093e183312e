/- ReadU, ReadS: the program's and the document's answer the same. -/
import Derived.Test.YtdghpmnhlhhcnaaG1Join
set_option linter.all false
namespace Go.R1
open Go.Ev

def rowOf (b : List Int) (a bits : Int) : Option (List Int) := if bits < 1 ∨ bits > 64 ∨ a < 0 then none else rowL (mostN bits) (b.drop a.toNat)
def lastB (l : List Int) : Int := (l[l.length - 1]?).getD 0
def lastN (bits : Int) : Nat := (bits - (mostN bits : Int) * 7 + 7).toNat
theorem lastN_ok {bits : Int} (h1 : 1 ≤ bits) (h2 : bits ≤ 64) : 1 ≤ lastN bits ∧ lastN bits ≤ 7 ∧ (lastN bits : Int) = bits - (mostN bits : Int) * 7 + 7 := by
  unfold lastN mostN; omega
theorem mostN_ok {bits : Int} (h1 : 1 ≤ bits) (h2 : bits ≤ 64) : 1 ≤ mostN bits ∧ mostN bits ≤ 10 := by
  unfold mostN; omega
theorem takenV_row (b : List Int) (a bits : Int) : takenV b a bits = match rowOf b a bits with
    | none => ([], 0, false)
    | some l => (l, a + l.length, true) := by
  unfold takenV rowOf
  by_cases h : bits < 1 ∨ bits > 64 ∨ a < 0
  · simp only [if_pos h]
  · simp only [if_neg h]
    cases rowL (mostN bits) (List.drop a.toNat b) <;> rfl
theorem rowOf_spec {b l : List Int} {a bits : Int} (hb : By b) (h : rowOf b a bits = some l) : 1 ≤ bits ∧ bits ≤ 64 ∧ 0 ≤ a ∧ l.length ≤ mostN bits ∧ 0 < l.length ∧ l.length ≤ 10 ∧ l.length ≤ b.length ∧ a + l.length ≤ b.length ∧ By l ∧ 0 ≤ lastB l ∧ lastB l < 128 ∧ at? l ((l.length : Int) - 1) = some (lastB l) ∧ rowL (mostN bits) (b.drop a.toNat) = some l := by
  unfold rowOf at h
  split at h
  · cases h
  · rename_i hc
    obtain ⟨h1, h2, h3, h4, x, h5, h6⟩ := rowL_spec h
    have hm := mostN_ok (bits := bits) (by omega) (by omega)
    have hby : By l := fun y hy => by
      rw [h3] at hy
      exact hb y (List.mem_of_mem_drop (List.mem_of_mem_take hy))
    have hd : (b.drop a.toNat).length ≤ b.length := by rw [List.length_drop]; omega
    have hlast : lastB l = x := by unfold lastB; rw [h5]; rfl
    refine ⟨by omega, by omega, by omega, h1, h2, by omega, by omega, ?_, hby, ?_, by omega, ?_, h⟩
    · rw [List.length_drop] at h4; omega
    · rw [hlast]; exact (hby x (List.mem_of_getElem? h5)).1
    · rw [show ((l.length : Int) - 1) = ((l.length - 1 : Nat) : Int) from by omega, at?_nat, hlast, h5]
theorem last_ok {k : Nat} (hk : 1 ≤ k) {bits : Int} (h1 : 1 ≤ bits) (h2 : bits ≤ 64) : leb_last.f k bits = some (lastN bits : Int) := by
  obtain ⟨k, rfl⟩ : ∃ j, k = j + 1 := ⟨k - 1, by omega⟩
  have hm := mostN_ok h1 h2
  have hl := lastN_ok h1 h2
  simp only [leb_last.f]
  have hm2 := (most_ok h1 h2).1
  rw [show (((bits + 6) / 7).toNat : Int) = (mostN bits : Int) from rfl] at hm2
  rw [hm2, imul64 (by omega) (by omega), isub64 (by omega) (by omega), iadd64 (by omega) (by omega), hl.2.2]
theorem full_ok {k : Nat} (hk : 1 ≤ k) {l : List Int} {bits : Int} (h1 : 1 ≤ bits) (h2 : bits ≤ 64) : leb_full.f k l bits = some (decide (l.length = mostN bits)) := by
  obtain ⟨k, rfl⟩ : ∃ j, k = j + 1 := ⟨k - 1, by omega⟩
  have hm2 := (most_ok h1 h2).1
  rw [show (((bits + 6) / 7).toNat : Int) = (mostN bits : Int) from rfl] at hm2
  simp only [leb_full.f]
  rw [hm2]
  congr 1
  rw [decide_eq_decide]; omega
/-- What ReadU answers. -/
def readUV (b : List Int) (a bits : Int) : Int × Int × Bool := match rowOf b a bits with
  | none => (0, 0, false)
  | some l => if l.length = mostN bits ∧ lastB l / 2 ^ lastN bits ≠ 0 then (0, 0, false) else (IntKind.u64.wrap (valL l), a + l.length, true)
theorem readU_ok {k : Nat} (hk : 30 ≤ k) {b : List Int} {a bits : Int} (hb : By b) (hl : b.length ≤ 9007199254740992) : leb_ReadU.f k b a bits = some (readUV b a bits) := by
  obtain ⟨k, rfl⟩ : ∃ j, k = j + 1 := ⟨k - 1, by omega⟩
  simp only [leb_ReadU.f]
  rw [taken_ok (by omega) hb hl, takenV_row]
  unfold readUV
  cases hr : rowOf b a bits with
  | none => simp [segB]
  | some l =>
    obtain ⟨h1, h2, h3, h4, h5, h6, _, _, h7, h8, h9, h10, _⟩ := rowOf_spec hb hr
    obtain ⟨n1, n2, n3⟩ := lastN_ok h1 h2
    simp only [Option.bind_some, Bool.not_true, Bool.false_eq_true, if_false]
    rw [full_ok (by omega) h1 h2]
    simp only [Option.bind_some, decide_eq_true_eq]
    have fin : ∀ z : Option (Unit ⊕ (Int × Int × Bool)), z = some (.inl ()) → segB z (fun _ => (leb_joined.f k l).bind fun r43 => some (r43, a + l.length, true)) = some (IntKind.u64.wrap (valL l), a + l.length, true) := by
      rintro z rfl
      simp only [segB]
      rw [joined_ok (by omega) h7 h6]
      rfl
    by_cases hf : l.length = mostN bits
    · rw [if_pos hf, isub64 (by omega) (by omega), h10]
      simp only [Option.bind_some]
      rw [last_ok (by omega) h1 h2]
      simp only [Option.bind_some]
      rw [if_pos (by omega), ishr_ok (k := .u8) (by simp only [IntKind.bits]; omega)]
      by_cases hz : lastB l / 2 ^ lastN bits = 0
      · rw [if_pos hz, if_neg (by simp [hz])]
        exact fin _ rfl
      · rw [if_neg hz, if_pos ⟨hf, hz⟩]
        rfl
    · rw [if_neg hf, if_neg (by simp [hf])]
      exact fin _ rfl
theorem rowV_row {b : List Int} {a bits : Int} (h1 : 1 ≤ bits) (h2 : bits ≤ 64) : rowV b a (mostN bits) = match rowOf b a bits with
    | none => ([], false)
    | some l => (l, true) := by
  unfold rowV rowOf
  by_cases h : a < 0
  · rw [if_pos h, if_pos (by omega)]
  · rw [if_neg h, if_neg (by omega)]
    cases rowL (mostN bits) (List.drop a.toNat b) <;> rfl
theorem refU_ok {k : Nat} (hk : 30 ≤ k) {b : List Int} {a bits : Int} (hb : By b) (hl : b.length ≤ 9007199254740992) : ref4_ReadU.f k b a bits = some (readUV b a bits) := by
  obtain ⟨k, rfl⟩ : ∃ j, k = j + 1 := ⟨k - 1, by omega⟩
  simp only [ref4_ReadU.f]
  unfold readUV
  by_cases h1 : bits < 1
  · rw [if_pos h1]; simp only [rowOf, if_pos (show bits < 1 ∨ bits > 64 ∨ a < 0 from .inl h1)]
  · rw [if_neg h1]
    by_cases h2 : bits > 64
    · rw [if_pos h2]; simp only [rowOf, if_pos (show bits < 1 ∨ bits > 64 ∨ a < 0 from .inr (.inl h2))]
    · rw [if_neg h2]
      have hm2 := (most_ok (bits := bits) (by omega) (by omega)).2
      rw [show (((bits + 6) / 7).toNat : Int) = (mostN bits : Int) from rfl] at hm2
      have hm := mostN_ok (bits := bits) (by omega) (by omega)
      rw [hm2, row_ok (by omega) hb hl hm.2, rowV_row (by omega) (by omega)]
      cases hr : rowOf b a bits with
      | none => simp
      | some l =>
        obtain ⟨g1, g2, h3, h4, h5, h6, h6', h6'', h7, h8, h9, h10, _⟩ := rowOf_spec hb hr
        obtain ⟨n1, n2, n3⟩ := lastN_ok g1 g2
        simp only [Option.bind_some, Bool.not_true, Bool.false_eq_true, if_false]
        have hadd : iadd .i64 a (l.length : Int) = a + l.length := iadd64 (by omega) (by omega)
        have fin : ∀ z : Option (Unit ⊕ (Int × Int × Bool)), z = some (.inl ()) → segB z (fun _ => (loopS (ref4_ReadU.b11 k l) k ((0 : Int), (0 : Int))).bind fun n54 => some (n54, iadd .i64 a (l.length : Int), true)) = some (IntKind.u64.wrap (valL l), a + l.length, true) := by
          rintro z rfl
          simp only [segB]
          rw [refU_join (by omega) h6, hadd]
          rfl
        by_cases hf : l.length = mostN bits
        · have e1 : isub .i64 (mostN bits : Int) 1 = (l.length : Int) - 1 := by rw [isub64 (by omega) (by omega)]; omega
          have e2 : icv .u64 (isub .i64 bits (imul .i64 7 ((l.length : Int) - 1))) = (lastN bits : Int) := by
            rw [imul64 (by omega) (by omega), isub64 (by omega) (by omega), icvu64 (by omega) (by omega)]; omega
          rw [if_pos (by omega), e1, h10]
          simp only [Option.bind_some]
          rw [e2, if_pos (by omega), ishr_ok (k := .u64) (by simp only [IntKind.bits]; omega), icvu64 (by omega) (by omega)]
          by_cases hz : lastB l / 2 ^ lastN bits = 0
          · rw [if_pos hz, if_neg (by simp [hz])]
            exact fin _ rfl
          · rw [if_neg hz, if_pos ⟨hf, hz⟩]
            rfl
        · rw [if_neg (by omega), if_neg (by simp [hf])]
          exact fin _ rfl
/-! with a sign -/
def topS (e : Int) (n : Nat) : Prop := ishr .i8 (icv .i8 (ishl .u8 e 1)) (n : Int) = 0 ∨ ishr .i8 (icv .i8 (ishl .u8 e 1)) (n : Int) = -1
instance (e : Int) (n : Nat) : Decidable (topS e n) := inferInstanceAs (Decidable (_ ∨ _))
theorem top_same {e : Int} {n : Nat} (h0 : 0 ≤ e) (h1 : e < 128) (n1 : 1 ≤ n) (n2 : n ≤ 7) : topS e n ↔ (ishr .i64 (icv .i64 (iand .u8 e 127)) ((n : Int) - 1) = 0 ∨ ishr .i64 (icv .i64 (iand .u8 e 127)) ((n : Int) - 1) = ishr .i64 127 ((n : Int) - 1)) := by
  have key : ∀ (m : Fin 128) (j : Fin 8), 1 ≤ j.val → (topS ((m.val : Nat) : Int) j.val ↔ (ishr .i64 (icv .i64 (iand .u8 ((m.val : Nat) : Int) 127)) ((j.val : Int) - 1) = 0 ∨ ishr .i64 (icv .i64 (iand .u8 ((m.val : Nat) : Int) 127)) ((j.val : Int) - 1) = ishr .i64 127 ((j.val : Int) - 1))) := by decide +kernel
  have := key ⟨e.toNat, by omega⟩ ⟨n, by omega⟩ n1
  simp only [Int.toNat_of_nonneg h0] at this
  exact this
def svalL (l : List Int) : Int := if 7 * l.length < 64 ∧ iand .u8 (lastB l) 64 ≠ 0 then IntKind.i64.wrap (valL l - 2 ^ (7 * l.length)) else IntKind.i64.wrap (valL l)
def readSV (b : List Int) (a bits : Int) : Int × Int × Bool := match rowOf b a bits with
  | none => (0, 0, false)
  | some l => if l.length = mostN bits ∧ ¬ topS (lastB l) (lastN bits) then (0, 0, false) else (svalL l, a + l.length, true)
theorem i64_u64 (x : Int) : icv .i64 (IntKind.u64.wrap x) = IntKind.i64.wrap x := by
  unfold icv; rw [wrap_u64, wrap_i64, wrap_i64]; omega
theorem readS_ok {k : Nat} (hk : 30 ≤ k) {b : List Int} {a bits : Int} (hb : By b) (hl : b.length ≤ 9007199254740992) : leb_ReadS.f k b a bits = some (readSV b a bits) := by
  obtain ⟨k, rfl⟩ : ∃ j, k = j + 1 := ⟨k - 1, by omega⟩
  simp only [leb_ReadS.f]
  rw [taken_ok (by omega) hb hl, takenV_row]
  unfold readSV
  cases hr : rowOf b a bits with
  | none => simp
  | some l =>
    obtain ⟨h1, h2, h3, h4, h5, h6, _, _, h7, h8, h9, h10, _⟩ := rowOf_spec hb hr
    obtain ⟨n1, n2, n3⟩ := lastN_ok h1 h2
    simp only [Option.bind_some, Bool.not_true, Bool.false_eq_true, if_false]
    rw [full_ok (by omega) h1 h2]
    simp only [Option.bind_some, decide_eq_true_eq]
    have e1 : isub .i64 (l.length : Int) 1 = (l.length : Int) - 1 := isub64 (by omega) (by omega)
    have e7 : imul .i64 7 (l.length : Int) = ((7 * l.length : Nat) : Int) := by rw [imul64 (by omega) (by omega)]; omega
    rw [e1, e7, h10]
    simp only [Option.bind_some]
    have sgn : segB (if ((7 * l.length : Nat) : Int) < 64 then (if iand .u8 (lastB l) 64 = 0 then (some (.inl (IntKind.u64.wrap (valL l)))) else (if (0 : Int) ≤ ((7 * l.length : Nat) : Int) then (some (.inl (ior .u64 (IntKind.u64.wrap (valL l)) (ishl .u64 18446744073709551615 ((7 * l.length : Nat) : Int))))) else none)) else (some (.inl (IntKind.u64.wrap (valL l)))) : Option (Int ⊕ (Int × Int × Bool))) (fun n59 => some (icv .i64 n59, a + l.length, true)) = some (svalL l, a + l.length, true) := by
      unfold svalL
      by_cases hs : 7 * l.length < 64
      · rw [if_pos (by omega)]
        by_cases hz : iand .u8 (lastB l) 64 = 0
        · rw [if_pos hz, if_neg (by simp [hz])]
          simp only [segB, i64_u64]
        · rw [if_neg hz, if_pos (by omega), if_pos ⟨hs, hz⟩]
          simp only [segB]
          rw [ior_group (k := .u64) (by simp only [IntKind.bits]; omega) (valL_nonneg _) (by have := valL_lt l; rw [pow128] at this; exact this) (by decide), i64_u64]
          congr 2
          rw [wrap_i64, wrap_i64]
          generalize (2 : Int) ^ (7 * l.length) = p
          omega
      · rw [if_neg (by omega), if_neg (by omega)]
        simp only [segB, i64_u64]
    have fin : ∀ z : Option (Unit ⊕ (Int × Int × Bool)), z = some (.inl ()) → segB z (fun _ => (leb_joined.f k l).bind fun r53 => segB (if ((7 * l.length : Nat) : Int) < 64 then (if iand .u8 (lastB l) 64 = 0 then (some (.inl r53)) else (if (0 : Int) ≤ ((7 * l.length : Nat) : Int) then (some (.inl (ior .u64 r53 (ishl .u64 18446744073709551615 ((7 * l.length : Nat) : Int))))) else none)) else (some (.inl r53))) (fun n59 => some (icv .i64 n59, a + l.length, true))) = some (svalL l, a + l.length, true) := by
      rintro z rfl
      simp only [segB]
      rw [joined_ok (by omega) h7 h6]
      exact sgn
    by_cases hf : l.length = mostN bits
    · rw [if_pos hf, last_ok (by omega) h1 h2]
      simp only [Option.bind_some]
      rw [if_pos (by omega)]
      by_cases ht : topS (lastB l) (lastN bits)
      · rw [if_neg (show ¬ (l.length = mostN bits ∧ ¬ topS (lastB l) (lastN bits)) from fun h => h.2 ht)]
        refine fin _ ?_
        rcases ht with ht | ht
        · rw [if_pos ht]
        · by_cases h0 : ishr .i8 (icv .i8 (ishl .u8 (lastB l) 1)) (lastN bits : Int) = 0
          · rw [if_pos h0]
          · rw [if_neg h0, if_pos ht]
      · rw [if_pos (show l.length = mostN bits ∧ ¬ topS (lastB l) (lastN bits) from ⟨hf, ht⟩)]
        simp only [topS, not_or] at ht
        rw [if_neg ht.1, if_neg ht.2]
        rfl
    · rw [if_neg hf, if_neg (by simp [hf])]
      exact fin _ rfl
theorem refS_ok {k : Nat} (hk : 30 ≤ k) {b : List Int} {a bits : Int} (hb : By b) (hl : b.length ≤ 9007199254740992) : ref4_ReadS.f k b a bits = some (readSV b a bits) := by
  obtain ⟨k, rfl⟩ : ∃ j, k = j + 1 := ⟨k - 1, by omega⟩
  simp only [ref4_ReadS.f]
  unfold readSV
  by_cases h1 : bits < 1
  · rw [if_pos h1]; simp only [rowOf, if_pos (show bits < 1 ∨ bits > 64 ∨ a < 0 from .inl h1)]
  · rw [if_neg h1]
    by_cases h2 : bits > 64
    · rw [if_pos h2]; simp only [rowOf, if_pos (show bits < 1 ∨ bits > 64 ∨ a < 0 from .inr (.inl h2))]
    · rw [if_neg h2]
      have hm2 := (most_ok (bits := bits) (by omega) (by omega)).2
      rw [show (((bits + 6) / 7).toNat : Int) = (mostN bits : Int) from rfl] at hm2
      have hm := mostN_ok (bits := bits) (by omega) (by omega)
      rw [hm2, row_ok (by omega) hb hl hm.2, rowV_row (by omega) (by omega)]
      cases hr : rowOf b a bits with
      | none => simp
      | some l =>
        obtain ⟨g1, g2, h3, h4, h5, h6, h6', h6'', h7, h8, h9, h10, _⟩ := rowOf_spec hb hr
        obtain ⟨n1, n2, n3⟩ := lastN_ok g1 g2
        simp only [Option.bind_some, Bool.not_true, Bool.false_eq_true, if_false]
        have hadd : iadd .i64 a (l.length : Int) = a + l.length := iadd64 (by omega) (by omega)
        have e1 : isub .i64 (l.length : Int) 1 = (l.length : Int) - 1 := isub64 (by omega) (by omega)
        have e7 : imul .i64 7 (l.length : Int) = ((7 * l.length : Nat) : Int) := by rw [imul64 (by omega) (by omega)]; omega
        have e8 : icv .u64 ((7 * l.length : Nat) : Int) = ((7 * l.length : Nat) : Int) := icvu64 (by omega) (by omega)
        rw [e1, e7, e8, h10, hadd]
        simp only [Option.bind_some]
        have sgn : segB (if iand .u8 (lastB l) 64 = 0 then (some (.inl (IntKind.i64.wrap (valL l)))) else (if ((7 * l.length : Nat) : Int) < 64 then (if (0 : Int) ≤ ((7 * l.length : Nat) : Int) then (some (.inl (isub .i64 (IntKind.i64.wrap (valL l)) (ishl .i64 1 ((7 * l.length : Nat) : Int))))) else none) else (some (.inl (IntKind.i64.wrap (valL l))))) : Option (Int ⊕ (Int × Int × Bool))) (fun n83 => some (n83, a + l.length, true)) = some (svalL l, a + l.length, true) := by
          unfold svalL
          by_cases hz : iand .u8 (lastB l) 64 = 0
          · rw [if_pos hz, if_neg (by simp [hz])]
            rfl
          · rw [if_neg hz]
            by_cases hs : 7 * l.length < 64
            · rw [if_pos (by omega), if_pos (by omega), if_pos ⟨hs, hz⟩]
              simp only [segB]
              congr 2
              unfold isub ishl
              rw [Int.toNat_natCast, Nat.min_eq_left (by simp only [IntKind.bits]; omega), wrap_i64, wrap_i64, wrap_i64, wrap_i64]
              generalize (2 : Int) ^ (7 * l.length) = p
              omega
            · rw [if_neg (by omega), if_neg (by omega)]
              rfl
        have fin : ∀ z : Option (Unit ⊕ (Int × Int × Bool)), z = some (.inl ()) → segB z (fun _ => (loopS (ref4_ReadS.b15 k l) k ((0 : Int), (0 : Int))).bind fun n72 => segB (if iand .u8 (lastB l) 64 = 0 then (some (.inl n72)) else (if ((7 * l.length : Nat) : Int) < 64 then (if (0 : Int) ≤ ((7 * l.length : Nat) : Int) then (some (.inl (isub .i64 n72 (ishl .i64 1 ((7 * l.length : Nat) : Int))))) else none) else (some (.inl n72)))) (fun n83 => some (n83, a + l.length, true))) = some (svalL l, a + l.length, true) := by
          rintro z rfl
          simp only [segB]
          rw [refS_join (by omega) h6]
          exact sgn
        by_cases hf : l.length = mostN bits
        · have e2 : isub .u64 (icv .u64 (isub .i64 bits (imul .i64 7 (isub .i64 (mostN bits : Int) 1)))) 1 = (lastN bits : Int) - 1 := by
            rw [show isub .i64 (mostN bits : Int) 1 = (mostN bits : Int) - 1 from isub64 (by omega) (by omega), imul64 (by omega) (by omega), isub64 (by omega) (by omega), icvu64 (by omega) (by omega), isub_ok (k := .u64) (by simp only [inR]; omega)]; omega
          rw [if_pos (by omega), e2, if_pos (by omega)]
          have ts := top_same h8 h9 n1 n2
          by_cases ht : topS (lastB l) (lastN bits)
          · rw [if_neg (show ¬ (l.length = mostN bits ∧ ¬ topS (lastB l) (lastN bits)) from fun h => h.2 ht)]
            refine fin _ ?_
            rw [ts] at ht
            rcases ht with ht | ht
            · rw [if_pos ht]
            · by_cases h0 : ishr .i64 (icv .i64 (iand .u8 (lastB l) 127)) ((lastN bits : Int) - 1) = 0
              · rw [if_pos h0]
              · rw [if_neg h0, if_pos (by omega), if_pos ht]
          · rw [if_pos (show l.length = mostN bits ∧ ¬ topS (lastB l) (lastN bits) from ⟨hf, ht⟩)]
            rw [ts, not_or] at ht
            rw [if_neg ht.1, if_pos (by omega), if_neg ht.2]
            rfl
        · rw [if_neg (by omega), if_neg (by simp [hf])]
          exact fin _ rfl
theorem reads_ok {k : Nat} (hk : 40 ≤ k) {b : List Int} {a bits : Int} (hb : By b) (hl : b.length ≤ 9007199254740992) : law4_reads.f k b a bits = some true := by
  obtain ⟨k, rfl⟩ : ∃ j, k = j + 1 := ⟨k - 1, by omega⟩
  simp only [law4_reads.f]
  rw [readU_ok (by omega) hb hl, refU_ok (by omega) hb hl, readS_ok (by omega) hb hl, refS_ok (by omega) hb hl]
  simp
end Go.R1

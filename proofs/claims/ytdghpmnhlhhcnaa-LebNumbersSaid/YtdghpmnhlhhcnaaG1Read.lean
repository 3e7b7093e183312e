/- leb.taken, row: the bytes of a number. -/
import Derived.Test.YtdghpmnhlhhcnaaG1Leb
set_option linter.all false
namespace Go.R1
open Go.Ev

/-- The bytes of a number that begins here: up to the first one less than 128, at most m. -/
def rowL : Nat → List Int → Option (List Int)
  | 0, _ => none
  | _ + 1, [] => none
  | m + 1, x :: r => if x < 128 then some [x] else (rowL m r).map (x :: ·)
theorem rowL_spec : ∀ {m : Nat} {s l : List Int}, rowL m s = some l → l.length ≤ m ∧ 0 < l.length ∧ l = s.take l.length ∧ l.length ≤ s.length ∧ (∃ x, l[l.length - 1]? = some x ∧ x < 128)
  | 0, s, l, h => by simp [rowL] at h
  | m + 1, [], l, h => by simp [rowL] at h
  | m + 1, x :: r, l, h => by
    simp only [rowL] at h
    split at h
    · rename_i hx
      cases h
      exact ⟨by simp, by simp, by simp, by simp, x, by simp, hx⟩
    · obtain ⟨q, hq, rfl⟩ := Option.map_eq_some_iff.1 h
      obtain ⟨h1, h2, h3, h4, y, h5, h6⟩ := rowL_spec hq
      refine ⟨by simp; omega, by simp, by simp; exact h3, by simp; omega, y, ?_, h6⟩
      rw [show (x :: q).length - 1 = (q.length - 1) + 1 from by simp; omega, List.getElem?_cons_succ]
      exact h5
def By (l : List Int) : Prop := ∀ x ∈ l, inR .u8 x
theorem and128 {e : Int} (h : inR .u8 e) : (iand .u8 e 128 = 0) ↔ e < 128 := by
  obtain ⟨h0, h1⟩ := h
  obtain ⟨n, rfl⟩ : ∃ n : Nat, e = n := ⟨e.toNat, by omega⟩
  have hn : n < 256 := by omega
  have key : ∀ m : Fin 256, (iand .u8 ((m.val : Nat) : Int) 128 = 0) ↔ ((m.val : Nat) : Int) < 128 := by decide +kernel
  exact key ⟨n, hn⟩
theorem at?_nat {β : Type} (l : List β) (i : Nat) : at? l (i : Int) = l[i]? := by simp [at?]
theorem drop_cons {l : List Int} {i : Nat} (h : i < l.length) : l.drop i = l[i] :: l.drop (i + 1) := by rw [List.drop_eq_getElem_cons h]
/-- What leb.taken's loop comes to. -/
theorem taken_loop (k : Nat) {b : List Int} {a : Nat} {bits : Int} {most : Nat} (hb : By b) (hl : b.length ≤ 9007199254740992) (hm : iquo .i64 (isub .i64 (iadd .i64 bits 7) 1) 7 = (most : Int)) (hm1 : most ≤ 10) :
    ∀ (d n m : Nat), n + d = most → d < m → loopS (leb_taken.b5 k b (a : Int) bits) m (n : Int) = some (match rowL d (b.drop (a + n)) with
      | none => .inl ()
      | some l => .inr ((b.drop a).take (n + l.length), ((a + n + l.length : Nat) : Int)))
  | 0, n, m, hn, hd => by
    obtain ⟨m, rfl⟩ : ∃ j, m = j + 1 := ⟨m - 1, by omega⟩
    rw [loopS_last (o := .inl ()) (by simp only [leb_taken.b5]; rw [hm, if_neg (by omega)])]
    rfl
  | d + 1, n, m, hn, hd => by
    obtain ⟨m, rfl⟩ : ∃ j, m = j + 1 := ⟨m - 1, by omega⟩
    have hs : isub .i64 (b.length : Int) (n : Int) = (b.length : Int) - n := isub64 (by omega) (by omega)
    by_cases hlt : a + n < b.length
    · have e1 : iadd .i64 (a : Int) (n : Int) = ((a + n : Nat) : Int) := by rw [iadd64 (by omega) (by omega)]; omega
      have e2 : iadd .i64 ((a + n : Nat) : Int) 1 = ((a + n + 1 : Nat) : Int) := by rw [iadd64 (by omega) (by omega)]; omega
      have hx := hb _ (List.getElem_mem hlt)
      rw [drop_cons hlt]
      simp only [rowL]
      by_cases hx8 : b[a + n] < 128
      · rw [if_pos hx8, loopS_last (o := .inr ((b.drop a).take (n + 1), ((a + n + 1 : Nat) : Int)))]
        · rfl
        · simp only [leb_taken.b5]
          rw [hm, if_pos (by omega), hs, if_pos (by omega), e1, at?_nat, List.getElem?_eq_getElem hlt]
          simp only [Option.bind_some]
          rw [if_pos ((and128 hx).2 hx8), e2, if_pos ⟨by omega, by omega, by omega⟩]
          simp only [Int.toNat_natCast]
          rw [List.drop_take, show a + n + 1 - a = n + 1 from by omega]
      · rw [if_neg hx8, loopS_next (v' := ((n + 1 : Nat) : Int))]
        · rw [taken_loop k hb hl hm hm1 d (n + 1) m (by omega) (by omega), show a + (n + 1) = a + n + 1 from by omega]
          cases rowL d (b.drop (a + n + 1)) with
          | none => rfl
          | some q =>
            simp only [Option.map_some, List.length_cons]
            rw [show n + 1 + q.length = n + (q.length + 1) from by omega, show a + n + 1 + q.length = a + n + (q.length + 1) from by omega]
        · simp only [leb_taken.b5]
          rw [hm, if_pos (by omega), hs, if_pos (by omega), e1, at?_nat, List.getElem?_eq_getElem hlt]
          simp only [Option.bind_some]
          rw [if_neg (fun h => hx8 ((and128 hx).1 h)), iadd64 (by omega) (by omega)]
          rfl
    · rw [List.drop_eq_nil_of_le (by omega)]
      rw [loopS_last (o := .inl ()) (by simp only [leb_taken.b5]; rw [hm, if_pos (by omega), hs, if_neg (by omega)])]
      rfl
theorem most_ok {bits : Int} (h1 : 1 ≤ bits) (h2 : bits ≤ 64) : iquo .i64 (isub .i64 (iadd .i64 bits 7) 1) 7 = (((bits + 6) / 7).toNat : Int) ∧ iquo .i64 (iadd .i64 bits 6) 7 = (((bits + 6) / 7).toNat : Int) := by
  rw [iadd64 (by omega) (by omega), isub64 (by omega) (by omega), iquo64 (by omega) (by omega) (by decide), iadd64 (by omega) (by omega), iquo64 (by omega) (by omega) (by decide)]
  constructor <;> omega
def mostN (bits : Int) : Nat := ((bits + 6) / 7).toNat
/-- What leb.taken answers. -/
def takenV (b : List Int) (a bits : Int) : List Int × Int × Bool := if bits < 1 ∨ bits > 64 ∨ a < 0 then ([], 0, false) else match rowL (mostN bits) (b.drop a.toNat) with
  | none => ([], 0, false)
  | some l => (l, a + l.length, true)
theorem taken_ok {k : Nat} (hk : 20 ≤ k) {b : List Int} {a bits : Int} (hb : By b) (hl : b.length ≤ 9007199254740992) : leb_taken.f k b a bits = some (takenV b a bits) := by
  obtain ⟨k, rfl⟩ : ∃ j, k = j + 1 := ⟨k - 1, by omega⟩
  simp only [leb_taken.f, takenV]
  by_cases h1 : bits < 1
  · rw [if_pos h1, if_pos (.inl h1)]
  · rw [if_neg h1]
    by_cases h2 : bits > 64
    · rw [if_pos h2, if_pos (.inr (.inl h2))]
    · rw [if_neg h2]
      by_cases h3 : a < 0
      · rw [if_pos h3, if_pos (.inr (.inr h3))]
      · rw [if_neg h3, if_neg (by omega)]
        obtain ⟨a, rfl⟩ : ∃ n : Nat, a = n := ⟨a.toNat, by omega⟩
        have hm : mostN bits ≤ 10 := by unfold mostN; omega
        have := taken_loop k (a := a) (bits := bits) (most := mostN bits) hb hl (most_ok (by omega) (by omega)).1 hm (mostN bits) 0 k (by omega) (by omega)
        rw [show ((0 : Nat) : Int) = (0 : Int) from rfl] at this
        rw [this]
        simp only [Nat.add_zero, Int.toNat_natCast, Nat.zero_add]
        cases hr : rowL (mostN bits) (b.drop a) with
        | none => rfl
        | some l =>
          simp only [altB]
          obtain ⟨_, _, h4, _⟩ := rowL_spec hr
          rw [← h4]
          congr 1
theorem row_loop (k : Nat) {b : List Int} {a : Nat} {most : Nat} (hb : By b) (hl : b.length ≤ 9007199254740992) (hm1 : most ≤ 10) :
    ∀ (d n m : Nat), n + d = most → d < m → loopS (ref4_row.b4 k b (a : Int) (most : Int)) m (n : Int) = some (match rowL d (b.drop (a + n)) with
      | none => .inl ()
      | some l => .inr ((b.drop a).take (n + l.length)))
  | 0, n, m, hn, hd => by
    obtain ⟨m, rfl⟩ : ∃ j, m = j + 1 := ⟨m - 1, by omega⟩
    rw [loopS_last (o := .inl ()) (by simp only [ref4_row.b4]; rw [if_neg (by omega)])]
    rfl
  | d + 1, n, m, hn, hd => by
    obtain ⟨m, rfl⟩ : ∃ j, m = j + 1 := ⟨m - 1, by omega⟩
    by_cases ha : a < b.length
    · have hs : isub .i64 (b.length : Int) (a : Int) = (b.length : Int) - a := isub64 (by omega) (by omega)
      by_cases hlt : a + n < b.length
      · have e1 : iadd .i64 (a : Int) (n : Int) = ((a + n : Nat) : Int) := by rw [iadd64 (by omega) (by omega)]; omega
        have e2 : iadd .i64 ((a + n : Nat) : Int) 1 = ((a + n + 1 : Nat) : Int) := by rw [iadd64 (by omega) (by omega)]; omega
        rw [drop_cons hlt]
        simp only [rowL]
        by_cases hx8 : b[a + n] < 128
        · rw [if_pos hx8, loopS_last (o := .inr ((b.drop a).take (n + 1)))]
          · rfl
          · simp only [ref4_row.b4]
            rw [if_pos (by omega), if_pos (by omega), hs, if_pos (by omega), e1, at?_nat, List.getElem?_eq_getElem hlt]
            simp only [Option.bind_some]
            rw [if_pos hx8, e2, if_pos ⟨by omega, by omega, by omega⟩]
            simp only [Int.toNat_natCast]
            rw [List.drop_take, show a + n + 1 - a = n + 1 from by omega]
        · rw [if_neg hx8, loopS_next (v' := ((n + 1 : Nat) : Int))]
          · rw [row_loop k hb hl hm1 d (n + 1) m (by omega) (by omega), show a + (n + 1) = a + n + 1 from by omega]
            cases rowL d (b.drop (a + n + 1)) with
            | none => rfl
            | some q =>
              simp only [Option.map_some, List.length_cons]
              rw [show n + 1 + q.length = n + (q.length + 1) from by omega]
          · simp only [ref4_row.b4]
            rw [if_pos (by omega), if_pos (by omega), hs, if_pos (by omega), e1, at?_nat, List.getElem?_eq_getElem hlt]
            simp only [Option.bind_some]
            rw [if_neg hx8, iadd64 (by omega) (by omega)]
            rfl
      · rw [List.drop_eq_nil_of_le (by omega)]
        rw [loopS_last (o := .inl ()) (by simp only [ref4_row.b4]; rw [if_pos (by omega), if_pos (by omega), hs, if_neg (by omega)])]
        rfl
    · rw [List.drop_eq_nil_of_le (by omega)]
      rw [loopS_last (o := .inl ()) (by simp only [ref4_row.b4]; rw [if_pos (by omega), if_neg (by omega)])]
      rfl
def rowV (b : List Int) (a : Int) (most : Nat) : List Int × Bool := if a < 0 then ([], false) else match rowL most (b.drop a.toNat) with
  | none => ([], false)
  | some l => (l, true)
theorem row_ok {k : Nat} (hk : 20 ≤ k) {b : List Int} {a : Int} {most : Nat} (hb : By b) (hl : b.length ≤ 9007199254740992) (hm : most ≤ 10) : ref4_row.f k b a (most : Int) = some (rowV b a most) := by
  obtain ⟨k, rfl⟩ : ∃ j, k = j + 1 := ⟨k - 1, by omega⟩
  simp only [ref4_row.f, rowV]
  by_cases h3 : a < 0
  · rw [if_pos h3, if_pos h3]
  · rw [if_neg h3, if_neg h3]
    obtain ⟨a, rfl⟩ : ∃ n : Nat, a = n := ⟨a.toNat, by omega⟩
    have := row_loop k (a := a) hb hl hm most 0 k (by omega) (by omega)
    rw [show ((0 : Nat) : Int) = (0 : Int) from rfl] at this
    rw [this]
    simp only [Nat.add_zero, Int.toNat_natCast, Nat.zero_add]
    cases hr : rowL most (b.drop a) with
    | none => rfl
    | some l =>
      simp only [altB]
      obtain ⟨_, _, h4, _⟩ := rowL_spec hr
      rw [← h4]
end Go.R1

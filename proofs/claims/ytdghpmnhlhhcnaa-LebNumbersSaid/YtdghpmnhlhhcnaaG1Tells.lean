/- LebTells -/
import Derived.Test.YtdghpmnhlhhcnaaG1Book
set_option linter.all false
namespace Go.R1
open Go.Proofs Go.Ev

theorem iadd_u8 {a b : Int} (h0 : 0 ≤ a + b) (h1 : a + b ≤ 255) : iadd .u8 a b = a + b := iadd_ok ⟨h0, h1⟩
theorem refu_loop (k : Nat) : ∀ (f : Nat) (n : Int) (l : List Int) (m : Nat), 0 ≤ n → n < 18446744073709551616 → n < 128 ^ (f + 1) → l.length + f ≤ 1000 → f + 1 ≤ m → loopS (ref4_U.b2 k) m (n, l) = some (runU f n l)
  | f, n, l, 0, _, _, _, _, h => by omega
  | 0, n, l, m + 1, h0, h1, h2, _, _ => by
    have h : ¬ n ≥ 128 := by simp at h2; omega
    rw [loopS_last (o := (n, l)) (by simp only [ref4_U.b2]; rw [if_neg h])]
    rfl
  | f + 1, n, l, m + 1, h0, h1, h2, h3, h4 => by
    by_cases hn : n > 127
    · have e : runU (f + 1) n l = runU f (n / 128) (l ++ [n % 128 + 128]) := by simp [runU, hn]
      have e1 : iadd .u8 (icv .u8 (irem .u64 n 128)) 128 = n % 128 + 128 := by rw [irem_ok h0, icvu8 (by omega) (by omega), iadd_u8 (by omega) (by omega)]
      have e2 : iquo .u64 n 128 = n / 128 := by
        unfold iquo
        rw [Int.tdiv_eq_ediv_of_nonneg h0]
        exact wrap_inR (k := .u64) ⟨by omega, by omega⟩
      rw [e, loopS_next (v' := (n / 128, l ++ [n % 128 + 128])) (by simp only [ref4_U.b2]; rw [if_pos (by omega), if_pos (room_small (by omega) (by omega)), e1, e2])]
      exact refu_loop k f (n / 128) _ m (by omega) (by omega) (by rw [Int.pow_succ] at h2; omega) (by simp; omega) (by omega)
    · have e : runU (f + 1) n l = (n, l) := by simp [runU, hn]
      rw [e, loopS_last (by simp only [ref4_U.b2]; rw [if_neg (by omega)])]
theorem refu_ok {k : Nat} (hk : 20 ≤ k) {n : Int} (h0 : 0 ≤ n) (h1 : n < 18446744073709551616) : ref4_U.f k n = some (encU n) := by
  obtain ⟨k, rfl⟩ : ∃ j, k = j + 1 := ⟨k - 1, by omega⟩
  obtain ⟨g1, g2, g3⟩ := runU_low 10 n [] h0 (by omega)
  simp only [ref4_U.f]
  rw [refu_loop k 10 n [] k h0 h1 (by omega) (by simp) (by omega)]
  simp only [Option.bind_some]
  rw [if_pos (room_small (by simp at g3; omega) (by simp at g3; omega)), icvu8 g1 (by omega)]
  rfl
theorem refs_round (k : Nat) {n : Int} {l : List Int} (hn : n < -64 ∨ n ≥ 64) (hl : l.length ≤ 1000) : ref4_S.b2 k (n, l) = some (.inl (n / 128, l ++ [n % 128 + 128])) := by
  obtain ⟨e1, e2, _⟩ := s_step n
  simp only [ref4_S.b2]
  have : (if n ≥ 64 then (some (.inl ()) : Option (Unit ⊕ ((Int × List Int) ⊕ (Int × List Int)))) else (if n < (-64) then (some (.inl ())) else (some (.inr (.inr (n, l)))))) = some (.inl ()) := by
    by_cases h : n ≥ 64
    · rw [if_pos h]
    · rw [if_neg h, if_pos (by omega)]
  rw [this]
  simp only [segB]
  rw [if_pos (room_small (by omega) (by omega)), e1, e2]
theorem refs_stop (k : Nat) {n : Int} {l : List Int} (hn : ¬ (n < -64 ∨ n ≥ 64)) : ref4_S.b2 k (n, l) = some (.inr (n, l)) := by
  simp only [ref4_S.b2]
  rw [if_neg (by omega), if_neg (by omega)]
  rfl
theorem refs_loop (k : Nat) : ∀ (f : Nat) (n : Int) (l : List Int) (m : Nat), -(64 * 128 ^ f) ≤ n → n < 64 * 128 ^ f → l.length + f ≤ 1000 → f + 1 ≤ m → loopS (ref4_S.b2 k) m (n, l) = some (runS f n l)
  | f, n, l, 0, _, _, _, h => by omega
  | 0, n, l, m + 1, h0, h1, _, _ => by
    rw [loopS_last (refs_stop k (by simp at h0 h1; omega))]
    rfl
  | f + 1, n, l, m + 1, h0, h1, h3, h4 => by
    rw [Int.pow_succ] at h0 h1
    by_cases hn : n < -64 ∨ n ≥ 64
    · have e : runS (f + 1) n l = runS f (n / 128) (l ++ [n % 128 + 128]) := by simp only [runS]; rw [if_pos hn]
      rw [e, loopS_next (refs_round k hn (by omega))]
      exact refs_loop k f (n / 128) _ m (by omega) (by omega) (by simp; omega) (by omega)
    · have e : runS (f + 1) n l = (n, l) := by simp only [runS]; rw [if_neg hn]
      rw [e, loopS_last (refs_stop k hn)]
theorem refs_ok {k : Nat} (hk : 20 ≤ k) {n : Int} (h0 : -9223372036854775808 ≤ n) (h1 : n ≤ 9223372036854775807) : ref4_S.f k n = some (encS n) := by
  obtain ⟨k, rfl⟩ : ∃ j, k = j + 1 := ⟨k - 1, by omega⟩
  obtain ⟨g1, g2, g3⟩ := runS_low 9 n [] (by omega) (by omega)
  simp only [ref4_S.f]
  rw [refs_loop k 9 n [] k (by omega) (by omega) (by simp) (by omega)]
  simp only [Option.bind_some]
  rw [if_pos (room_small (by simp at g3; omega) (by simp at g3; omega)), (s_step _).2.2]
  rfl
theorem encU_by {n : Int} (h0 : 0 ≤ n) (h1 : n < 18446744073709551616) : By (encU n) ∧ (encU n).length ≤ 10 := by
  obtain ⟨j, h2, h3, h4, _⟩ := encU_law h0 h1
  refine ⟨fun x hx => ?_, by omega⟩
  obtain ⟨i, hi⟩ := List.getElem?_of_mem hx
  obtain ⟨a, b, _⟩ := h4 i x hi
  exact ⟨a, by omega⟩
theorem encS_by {n : Int} (h0 : -9223372036854775808 ≤ n) (h1 : n ≤ 9223372036854775807) : By (encS n) ∧ (encS n).length ≤ 10 := by
  obtain ⟨j, h2, h3, h4, _⟩ := encS_law h0 h1
  refine ⟨fun x hx => ?_, by omega⟩
  obtain ⟨i, hi⟩ := List.getElem?_of_mem hx
  obtain ⟨a, b, _⟩ := h4 i x hi
  exact ⟨a, by omega⟩
theorem By.app {l m : List Int} (h : By l) (g : By m) : By (l ++ m) := fun x hx => (List.mem_append.1 hx).elim (h x) (g x)
theorem By.take {l : List Int} (h : By l) (n : Nat) : By (l.take n) := fun x hx => h x (List.mem_of_mem_take hx)
theorem By.rep (n : Nat) : By (List.replicate n 165) := fun x hx => by rw [List.eq_of_mem_replicate hx]; exact ⟨by decide, by decide⟩
theorem LebTells {k : Nat} (hk : 400 ≤ k) {n m at4 bits5 : Int} {b0 more : List Int} (hn : inR .u64 n) (hm : inR .i64 m) (_ : b0.length * 1 ≤ bigN) (hb0 : ∀ x ∈ b0, inR .u8 x) (_ : inR .i64 at4) (_ : inR .i64 bits5) (_ : more.length * 1 ≤ bigN) (_ : ∀ x ∈ more, inR .u8 x) :
    law4_LebTells.f k n m b0 at4 bits5 more = some true := by
  obtain ⟨k, rfl⟩ : ∃ j, k = j + 1 := ⟨k - 1, by omega⟩
  have cut : ∃ b : List Int, (if (b0.length : Int) > 30 then (if 0 ≤ (30 : Int) ∧ 30 ≤ (b0.length : Int) then (some (.inl (List.take 30 b0))) else none) else (some (.inl b0)) : Option (List Int ⊕ Bool)) = some (.inl b) ∧ b.length ≤ 30 ∧ By b := by
    by_cases h : (b0.length : Int) > 30
    · exact ⟨_, by rw [if_pos h, if_pos ⟨by omega, by omega⟩], by rw [List.length_take]; omega, By.take hb0 30⟩
    · exact ⟨_, by rw [if_neg h], by omega, hb0⟩
  obtain ⟨b, hcut, zb, hb⟩ := cut
  simp only [law4_LebTells.f]
  refine segB_to hcut ?_
  obtain ⟨h0, h1⟩ := hn
  obtain ⟨h2, h3⟩ := hm
  obtain ⟨r40, e40, _⟩ := within_ok (k := k) (n := at4) (lo := 0) (hi := (b.length : Int)) (by omega) (by omega) (by omega) (by omega)
  obtain ⟨r42, e42, _⟩ := within_ok (k := k) (n := bits5) (lo := 1) (hi := 64) (by omega) (by omega) (by omega) (by omega)
  obtain ⟨u1, u2⟩ := encU_by h0 (by omega : n < 18446744073709551616)
  obtain ⟨s1, s2⟩ := encS_by h2 h3
  rw [roomy_ok (by omega) (by omega)]
  simp only [Option.bind_some]
  rw [e40]
  simp only [Option.bind_some]
  rw [e42]
  simp only [Option.bind_some]
  rw [refu_ok (by omega) h0 (by omega)]
  simp only [Option.bind_some]
  rw [refs_ok (by omega) h2 h3]
  simp only [Option.bind_some]
  rw [u_ok (by omega) h0 (by omega)]
  simp only [Option.bind_some, strEq_self, if_true]
  rw [s_ok (by omega) h2 h3]
  simp only [Option.bind_some, strEq_self, if_true]
  rw [if_pos ⟨by omega, by omega, by simp⟩]
  rw [List.drop_zero, reads_ok (by omega) (((hb.app (By.rep 80))).take _) (by simp; omega)]
  simp only [Option.bind_some, if_true]
  rw [reads_ok (by omega) hb (by omega)]
  simp only [Option.bind_some, if_true]
  rw [if_pos (room_small (by omega) (by omega)), reads_ok (by omega) (u1.app hb) (by simp; omega)]
  simp only [Option.bind_some, if_true]
  rw [if_pos (room_small (by omega) (by omega)), reads_ok (by omega) (s1.app hb) (by simp; omega)]
  simp only [Option.bind_some, if_true]
  rw [intact_ok b (by omega) (by omega)]
  simp only [Option.bind_some, if_true]
  rw [known_ok (by omega)]
  rfl
end Go.R1

/- IntsTells, IntsNumbers. -/
import Derived.Test.YtoajmaedpaalkaaDoorGIBoth
set_option linter.all false
namespace Go.R2D
open Go Go.Ev
set_option maxRecDepth 100000

def edges : List Int := [(0 : Int), (1 : Int), (2 : Int), (31 : Int), (32 : Int), (63 : Int), (64 : Int), (127 : Int), (128 : Int), (255 : Int), (32767 : Int), (32768 : Int), (2147483647 : Int), (2147483648 : Int), (2147483649 : Int), (4294967295 : Int), (4294967296 : Int), (9223372036854775807 : Int), (9223372036854775808 : Int), (18446744073709551615 : Int), (6148914691236517205 : Int)]
theorem edges_ok : edges.all (fun e => decide (0 ≤ e) && decide (e < 18446744073709551616)) = true := by decide
theorem idx_ok (i : Int) {n : Int} (hn : 0 < n) (hn2 : n ≤ 1000) : 0 ≤ irem .i64 (iadd .i64 (irem .i64 i n) n) n ∧ irem .i64 (iadd .i64 (irem .i64 i n) n) n < n := by
  have e1 : -n < irem .i64 i n := by unfold irem; exact Int.lt_tmod_of_pos _ hn
  have e2 : irem .i64 i n < n := by unfold irem; exact Int.tmod_lt_of_pos _ hn
  generalize irem .i64 i n = z at e1 e2
  rw [iadd64 (a := z) (by omega) (by omega), irem_ok (by omega)]
  exact ⟨Int.emod_nonneg _ (by omega), Int.emod_lt_of_pos _ hn⟩
theorem edge_ok (k : Nat) (i : Int) : ∃ e, law1_edge.f (k + 1) i = some e ∧ 0 ≤ e ∧ e < 18446744073709551616 := by
  obtain ⟨h0, h1⟩ := idx_ok i (n := 21) (by decide) (by decide)
  have : law1_edge.f (k + 1) i = (if (0 : Int) ≤ (irem .i64 (iadd .i64 (irem .i64 i 21) 21) 21) ∧ (irem .i64 (iadd .i64 (irem .i64 i 21) 21) 21) < (21 : Int) then (edges[((irem .i64 (iadd .i64 (irem .i64 i 21) 21) 21)).toNat]?.bind fun e5 => (some e5)) else none) := rfl
  rw [this, if_pos ⟨h0, h1⟩]
  generalize irem .i64 (iadd .i64 (irem .i64 i 21) 21) 21 = z at h0 h1
  have hl : edges.length = 21 := by decide
  have hz : z.toNat < edges.length := by omega
  rw [List.getElem?_eq_getElem hz]
  have := List.all_eq_true.1 edges_ok edges[z.toNat] (List.getElem_mem _)
  simp only [Bool.and_eq_true, decide_eq_true_eq] at this
  exact ⟨_, rfl, this.1, this.2⟩
/-! the ops -/
theorem room_small {n b : Nat} (h : n * b ≤ 140737488355328) (hn : n ≤ 140737488355328) : roomP n b := ⟨h, hn⟩
theorem ops_loop (k : Nat) : ∀ (n : Nat) (x : Int) (l : List Int) (m : Nat), 0 ≤ x → x + n = 197 → l.length + n ≤ 1000 → n < m → ∃ l', loopS (law1_all.b3 (k + 2)) m (x, l) = some l' ∧ l.length ≤ l'.length ∧ l'.length ≤ l.length + n
  | 0, x, l, m, _, hx, _, hm => by
    obtain ⟨m, rfl⟩ : ∃ j, m = j + 1 := ⟨m - 1, by omega⟩
    refine ⟨l, loopS_last ?_, Nat.le_refl _, by omega⟩
    simp only [law1_all.b3]
    rw [if_neg (by omega)]
  | n + 1, x, l, m, h0, hx, hl, hm => by
    obtain ⟨m, rfl⟩ : ∃ j, m = j + 1 := ⟨m - 1, by omega⟩
    obtain ⟨v, _, hv⟩ := is_ok k x
    have st : law1_all.b3 (k + 2) (x, l) = some (.inl (x + 1, if v = true then l ++ [x] else l)) := by
      simp only [law1_all.b3]
      rw [if_pos (by omega), hv]
      refine segB_to (o := if v = true then l ++ [x] else l) ?_ (by rw [iadd64 (by omega) (by omega)])
      simp only [Option.bind_some]
      cases v with
      | true => rw [if_pos rfl, if_pos (room_small (by omega) (by omega))]; rfl
      | false => rfl
    have hlen : l.length ≤ (if v = true then l ++ [x] else l).length ∧ (if v = true then l ++ [x] else l).length ≤ l.length + 1 := by split <;> simp
    obtain ⟨l', e, g1, g2⟩ := ops_loop k n (x + 1) (if v = true then l ++ [x] else l) m (by omega) (by omega) (by omega) (by omega)
    exact ⟨l', by rw [loopS_next st]; exact e, by omega, by omega⟩
theorem is69 (k : Nat) : ref1_Is.f (k + 2) 69 = some true := by kernel_rfl
theorem ops_ok (k : Nat) (hk : 300 ≤ k) : ∃ l, law1_all.f (k + 3) = some l ∧ 0 < l.length ∧ l.length ≤ 200 := by
  have st : law1_all.b3 (k + 2) (69, []) = some (.inl (70, [69])) := by
    simp only [law1_all.b3]
    rw [if_pos (by decide), is69]
    refine segB_to (o := [69]) ?_ rfl
    simp only [Option.bind_some, if_true]
    rw [if_pos (room_small (by decide) (by decide))]; rfl
  obtain ⟨l, e, g1, g2⟩ := ops_loop k 127 70 [69] (k + 1) (by decide) (by decide) (by decide) (by omega)
  refine ⟨l, ?_, by simp at g1; omega, by simp at g2; omega⟩
  simp only [law1_all.f]
  rw [show k + 2 = (k + 1) + 1 from rfl, loopS_next st, e]
  rfl
theorem and_255 (v : Int) : iand .u64 v 255 = v % 256 := by
  have := iand_mask (k := .u64) (n := v) (m := 255) (j := 8) (by decide) (by decide)
  rw [this]; rfl
theorem tells_ok (j : Nat) {op a b i k n : Int} (a0 : 0 ≤ a) (a1 : a < 18446744073709551616) (b0 : 0 ≤ b) (b1 : b < 18446744073709551616) : law1_IntsTells.f (j + 400) op a b i k n = some true := by
  obtain ⟨l, e, g1, g2⟩ := ops_ok (j + 396) (by omega)
  have e' : law1_all.f (j + 399) = some l := e
  obtain ⟨i0, i1⟩ := idx_ok op (n := (l.length : Int)) (by omega) (by omega)
  obtain ⟨x, ex, x0, x1⟩ := edge_ok (j + 398) i
  obtain ⟨y, ey, y0, y1⟩ := edge_ok (j + 398) k
  obtain ⟨m0, m1⟩ := low_range a
  have n0 := Int.emod_nonneg b (b := 256) (by decide)
  have n1 := Int.emod_lt_of_pos b (b := 256) (by decide)
  obtain ⟨v, v1, v2⟩ := is_ok (j + 397) op
  simp only [law1_IntsTells.f]
  rw [e']
  simp only [Option.bind_some]
  rw [if_pos (by omega), if_pos (by omega), if_pos ⟨i0, i1⟩, List.getElem?_eq_getElem (by omega)]
  simp only [Option.bind_some]
  have s := fun (o : Int) {a b : Int} (a0 : 0 ≤ a) (a1 : a < 18446744073709551616) (b0 : 0 ≤ b) (b1 : b < 18446744073709551616) => same_ok (j + 308) o a0 a1 b0 b1
  have s' : ∀ (o : Int) {a b : Int} (a0 : 0 ≤ a) (a1 : a < 18446744073709551616) (b0 : 0 ≤ b) (b1 : b < 18446744073709551616), law1_same.f (j + 399) o a b = some true := s
  rw [s' _ a0 a1 b0 b1, ex, ey]
  simp only [Option.bind_some, if_true]
  rw [s' _ x0 x1 b0 b1]
  simp only [Option.bind_some, if_true]
  rw [s' _ a0 a1 y0 y1]
  simp only [Option.bind_some, if_true]
  rw [and_low, and_255, s' _ m0 (by rw [two_32] at m1; omega) n0 (by omega)]
  simp only [Option.bind_some, if_true]
  rw [s' _ a0 a1 b0 b1, v1, v2]
  simp only [Option.bind_some, if_true, beq_self_eq_true]
  rw [sign_ok, sign3_ok]
  simp only [Option.bind_some, if_true]
  rw [known_ok]
  rfl
theorem IntsTells {op a b i k n : Int} (_ : inR .i64 op) (ha : inR .u64 a) (hb : inR .u64 b) (_ : inR .i64 i) (_ : inR .i64 k) (_ : inR .i64 n) : ∃ f, law1_IntsTells.f f op a b i k n = some true := by
  obtain ⟨a0, a1⟩ := ha
  obtain ⟨b0, b1⟩ := hb
  exact ⟨_, tells_ok 0 a0 (by omega) b0 (by omega)⟩
/-! IntsNumbers -/
theorem nb10 (j : Nat) (op i : Int) : loopS (law1_IntsNumbers.b10 (j + 400) op i) (j + 400) (0 : Int) = some (.inl ()) := by
  refine loopS_count (f := law1_IntsNumbers.b10 (j + 400) op i) (fun q : Nat => (q : Int)) 21 (Sum.inl ()) ?_ (fun q hq => ?_) 21 0 (j + 400) (by omega) (by omega)
  · simp only [law1_IntsNumbers.b10]
    rw [if_neg (by omega)]
  · obtain ⟨x, ex, x0, x1⟩ := edge_ok (j + 399) i
    obtain ⟨y, ey, y0, y1⟩ := edge_ok (j + 399) (q : Int)
    have s : law1_same.f (j + 400) op x y = some true := same_ok (j + 309) op x0 x1 y0 y1
    simp only [law1_IntsNumbers.b10]
    rw [if_pos (by omega), ex, ey]
    simp only [Option.bind_some]
    rw [s]
    simp only [Option.bind_some, Bool.not_true, Bool.false_eq_true, if_false]
    rw [iadd64 (by omega) (by omega)]
    rfl
theorem nb7 (j : Nat) (op : Int) : loopS (law1_IntsNumbers.b7 (j + 400) op) (j + 400) (0 : Int) = some (.inl ()) := by
  refine loopS_count (f := law1_IntsNumbers.b7 (j + 400) op) (fun q : Nat => (q : Int)) 21 (Sum.inl ()) ?_ (fun q hq => ?_) 21 0 (j + 400) (by omega) (by omega)
  · simp only [law1_IntsNumbers.b7]
    rw [if_neg (by omega)]
  · simp only [law1_IntsNumbers.b7]
    rw [if_pos (by omega), nb10]
    simp only [altB]
    rw [iadd64 (by omega) (by omega)]
    rfl
theorem nb2 (j : Nat) : loopS (law1_IntsNumbers.b2 (j + 400)) (j + 400) (0 : Int) = some (.inl ()) := by
  refine loopS_count (f := law1_IntsNumbers.b2 (j + 400)) (fun q : Nat => (q : Int)) 256 (Sum.inl ()) ?_ (fun q hq => ?_) 256 0 (j + 400) (by omega) (by omega)
  · simp only [law1_IntsNumbers.b2]
    rw [if_neg (by omega)]
  · obtain ⟨v, v1, v2⟩ := is_ok (j + 398) (q : Int)
    simp only [law1_IntsNumbers.b2]
    rw [if_pos (by omega), v1, v2]
    simp only [Option.bind_some, beq_self_eq_true, Bool.not_true, Bool.false_eq_true, if_false]
    rw [nb7]
    simp only [altB]
    rw [iadd64 (by omega) (by omega)]
    rfl
theorem nb18 (j : Nat) (n : Int) : loopS (law1_IntsNumbers.b18 (j + 400) n) (j + 400) (0 : Int) = some (.inl ()) := by
  refine loopS_count (f := law1_IntsNumbers.b18 (j + 400) n) (fun q : Nat => (q : Int)) 21 (Sum.inl ()) ?_ (fun q hq => ?_) 21 0 (j + 400) (by omega) (by omega)
  · simp only [law1_IntsNumbers.b18]
    rw [if_neg (by omega)]
  · obtain ⟨x, ex, x0, x1⟩ := edge_ok (j + 399) (q : Int)
    simp only [law1_IntsNumbers.b18]
    rw [if_pos (by omega), ex]
    simp only [Option.bind_some, sign_ok, sign3_ok, if_true]
    rw [iadd64 (by omega) (by omega)]
    rfl
theorem nb15 (j : Nat) : loopS (law1_IntsNumbers.b15 (j + 400)) (j + 400) (-3 : Int) = some (.inl ()) := by
  refine loopS_count (f := law1_IntsNumbers.b15 (j + 400)) (fun q : Nat => (q : Int) - 3) 73 (Sum.inl ()) ?_ (fun q hq => ?_) 73 0 (j + 400) (by omega) (by omega)
  · simp only [law1_IntsNumbers.b15]
    rw [if_neg (by omega)]
  · simp only [law1_IntsNumbers.b15]
    rw [if_pos (by omega), nb18]
    simp only [altB]
    rw [iadd64 (by omega) (by omega)]
    congr 2
    omega
theorem numbers_ok (j : Nat) : law1_IntsNumbers.f (j + 401) = some true := by
  simp only [law1_IntsNumbers.f]
  rw [nb2]
  simp only [altB]
  rw [nb15]
  simp only [altB]
  rw [known_ok]
  rfl
theorem IntsNumbers : ∃ k, law1_IntsNumbers.f k = some true := ⟨_, numbers_ok 0⟩
end Go.R2D

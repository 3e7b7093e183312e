/- Pages: PagesCopies, PagesGrows. -/
import Derived.Test.YtdghpmnhlhhcnaaGP
import Derived.Test.YtdghpmnhlhhcnaaEvInt
import Derived.Test.YtdghpmnhlhhcnaaEvIn
set_option linter.all false
namespace Go.R1P
open Go.Ev
set_option maxRecDepth 100000

theorem at?_nat {β : Type} (l : List β) (i : Nat) : at? l (i : Int) = l[i]? := by simp [at?]
theorem room_small {n b : Nat} (h : n * b ≤ 140737488355328) (hn : n ≤ 140737488355328) : roomP n b := ⟨h, hn⟩
theorem tick_ok {n b k : Nat} (h : roomP n b) (hk : 0 < k) : tick n b k = some () := by
  cases k with
  | zero => omega
  | succ k => simp only [tick]; rw [if_pos h]
theorem bindO {α β : Type} {x : Option α} {f : α → Option β} {o : α} {r : Option β} (h : x = some o) (h2 : f o = r) : x.bind f = r := by rw [h]; exact h2
theorem altB_l {O O2 α : Type} {x : Option (O ⊕ O2)} {t : O → Option α} {t2 : O2 → Option α} {o : O} {r : Option α} (h : x = some (.inl o)) (h2 : t o = r) : altB x t t2 = r := by rw [h]; exact h2
theorem altB_r {O O2 α : Type} {x : Option (O ⊕ O2)} {t : O → Option α} {t2 : O2 → Option α} {o : O2} {r : Option α} (h : x = some (.inr o)) (h2 : t2 o = r) : altB x t t2 = r := by rw [h]; exact h2
theorem strEq_self (x : ByteArray) : strEq x x = true := by simp [strEq]
theorem known12 (j : Nat) : law12_known.f (j + 60) = some true := by kernel_rfl
theorem new_ok (k : Nat) {n m : Nat} (h1 : n ≤ m) (h2 : m ≤ 512) : pages_New.f (k + 1) (n : Int) (m : Int) = some (.inr ((m : Int), List.replicate (n * 1024) 0)) := by
  have e : imul .i64 (n : Int) 1024 = ((n * 1024 : Nat) : Int) := by rw [imul64 (by omega) (by omega)]; omega
  simp only [pages_New.f]
  rw [if_neg (by omega), if_neg (by omega), if_neg (by omega), e, Int.toNat_natCast, if_pos ⟨by omega, by omega, room_small (by omega) (by omega)⟩]
theorem there_ok (k : Nat) {m : pages_Memory} {a n : Nat} (hl : m.b.length ≤ 1000000000) (h : a + n ≤ m.b.length) : pages_Memory_there.f (k + 1) m (a : Int) (n : Int) = some true := by
  simp only [pages_Memory_there.f]
  have e : isub .u64 (m.b.length : Int) (a : Int) = ((m.b.length - a : Nat) : Int) := by rw [isub_ok (k := .u64) ⟨by omega, by omega⟩]; omega
  rw [icvu64 (by omega) (by omega), if_pos (by omega), e, decide_eq_true (by omega)]
theorem put_ok (k : Nat) {b l : List Int} {h : Int} (hb : b.length ≤ l.length) (hl : l.length ≤ 1000000000) : pages_Memory_Put.f (k + 2) (0 : Int) b h l = some (true, b ++ l.drop b.length) := by
  simp only [pages_Memory_Put.f]
  rw [icvu64 (by omega) (by omega)]
  refine bindO (there_ok k (m := ⟨l, h⟩) (a := 0) (n := b.length) hl (by simp only; omega)) ?_
  simp only [Bool.not_true, Bool.false_eq_true, if_false]
  rw [if_pos ⟨by omega, by simp, Nat.le_refl _⟩, if_pos (by simp; omega)]
  simp only [Int.toNat_zero, Nat.sub_zero, copyL, List.take_zero, List.nil_append, Nat.zero_add]
  rw [Nat.min_eq_left hb, List.take_length, List.take_of_length_le (by rw [List.length_drop]; omega)]
theorem bytes_ok (k : Nat) {l : List Int} {h : Int} (hl : l.length ≤ 1000000000) : pages_Memory_Bytes.f (k + 2) h l = some () := by
  simp only [pages_Memory_Bytes.f]
  rw [tick_ok (room_small (by omega) (by omega)) (by omega)]
  rfl
theorem copies_ok (j : Nat) {b : List Int} {at_ src n : Int} (a0 : 0 ≤ at_) (s0 : 0 ≤ src) (n0 : 0 ≤ n) : law12_PagesCopies.f (j + 71) b at_ src n = some true := by
  simp only [law12_PagesCopies.f]
  refine altB_r (new_ok (j + 69) (n := 2) (m := 2) (by decide) (by decide)) ?_
  have hB : ∃ B : List Int, B.length ≤ 2048 ∧ (if (b.length : Int) > 2048 then (if 0 ≤ (2048 : Int) ∧ 2048 ≤ (b.length : Int) then (some (.inl (List.take 2048 b))) else none) else (some (.inl b)) : Option (List Int ⊕ Bool)) = some (.inl B) := by
    by_cases h : (b.length : Int) > 2048
    · exact ⟨List.take 2048 b, by simp; omega, by rw [if_pos h, if_pos ⟨by decide, by omega⟩]⟩
    · exact ⟨b, by omega, by rw [if_neg h]⟩
  obtain ⟨B, hB, e1⟩ := hB
  refine segB_to e1 ?_
  have lz : (List.replicate (2 * 1024) (0 : Int)).length = 2048 := by simp
  refine bindO (put_ok (j + 68) (b := B) (l := List.replicate (2 * 1024) 0) (h := ((2 : Nat) : Int)) (by rw [lz]; exact hB) (by rw [lz]; decide)) ?_
  dsimp only
  have hM : (B ++ List.drop B.length (List.replicate (2 * 1024) (0 : Int))).length = 2048 := by simp; omega
  generalize B ++ List.drop B.length (List.replicate (2 * 1024) (0 : Int)) = M at hM
  refine bindO (bytes_ok (j + 68) (l := M) (by omega)) ?_
  have t0 := Int.emod_nonneg at_ (b := 2048) (by decide)
  have t1 := Int.emod_lt_of_pos at_ (b := 2048) (by decide)
  have u0 := Int.emod_nonneg src (b := 2048) (by decide)
  have u1 := Int.emod_lt_of_pos src (b := 2048) (by decide)
  rw [irem_ok (k := .u64) a0, irem_ok (k := .u64) s0]
  obtain ⟨t, ht⟩ : ∃ t : Nat, at_ % 2048 = (t : Int) := ⟨(at_ % 2048).toNat, by omega⟩
  obtain ⟨s, hs⟩ : ∃ s : Nat, src % 2048 = (s : Int) := ⟨(src % 2048).toNat, by omega⟩
  rw [ht] at t1
  rw [hs] at u1
  rw [ht, hs]
  have hm : ∃ m : Nat, isub .u64 2049 (imax (t : Int) (s : Int)) = (m : Int) ∧ 0 < m ∧ t + m ≤ 2049 ∧ s + m ≤ 2049 := by
    unfold imax
    split
    · exact ⟨2049 - s, by rw [isub_ok (k := .u64) ⟨by omega, by omega⟩]; omega, by omega, by omega, by omega⟩
    · exact ⟨2049 - t, by rw [isub_ok (k := .u64) ⟨by omega, by omega⟩]; omega, by omega, by omega, by omega⟩
  obtain ⟨m, hm, m0, m1, m2⟩ := hm
  rw [hm, if_pos (by omega), irem_ok (k := .u64) n0]
  have k0 := Int.emod_nonneg n (b := (m : Int)) (by omega)
  have k1 := Int.emod_lt_of_pos n (b := (m : Int)) (by omega)
  obtain ⟨q, hq⟩ : ∃ q : Nat, n % (m : Int) = (q : Int) := ⟨(n % (m : Int)).toNat, by omega⟩
  rw [hq] at k1
  simp only [hq]
  rw [if_pos (by omega)]
  have a1 : iadd .u64 (t : Int) (q : Int) = ((t + q : Nat) : Int) := by rw [iadd_ok (k := .u64) ⟨by omega, by omega⟩]; omega
  have a2 : iadd .u64 (s : Int) (q : Int) = ((s + q : Nat) : Int) := by rw [iadd_ok (k := .u64) ⟨by omega, by omega⟩]; omega
  have hX : (List.take q (List.drop s M)).length = q := by simp; omega
  have hc : pages_Copy.f (j + 70) (t : Int) (s : Int) (q : Int) ((2 : Nat) : Int) M = some (true, copyL M t q (List.take q (List.drop s M))) := by
    simp only [pages_Copy.f]
    refine bindO (there_ok (j + 68) (m := ⟨M, ((2 : Nat) : Int)⟩) (a := t) (n := q) (by simp only; omega) (by simp only; omega)) ?_
    simp only [Bool.not_true, Bool.false_eq_true, if_false]
    refine bindO (there_ok (j + 68) (m := ⟨M, ((2 : Nat) : Int)⟩) (a := s) (n := q) (by simp only; omega) (by simp only; omega)) ?_
    simp only [Bool.not_true, Bool.false_eq_true, if_false]
    rw [a1, a2]
    simp only [Int.toNat_natCast, Nat.add_sub_cancel_left]
    rw [if_pos ⟨by omega, by omega, by omega, by omega⟩, if_pos ⟨by omega, by omega, by omega, by omega⟩, hX, if_pos (by omega)]
  refine bindO hc ?_
  simp only [Bool.not_true, Bool.false_eq_true, if_false]
  rw [if_pos (room_small (by omega) (by omega)), a2]
  simp only [Int.toNat_natCast, Nat.add_sub_cancel_left]
  rw [if_pos ⟨by omega, by omega, by omega⟩, if_pos ⟨by omega, by omega, by omega, by omega⟩, hX, if_pos (by omega)]
  have hsame : copyL M t (M.length - t) (List.take q (List.drop s M)) = copyL M t q (List.take q (List.drop s M)) := by
    unfold copyL
    rw [hX, Nat.min_eq_left (by omega), Nat.min_self]
  have hlen : (copyL M t q (List.take q (List.drop s M))).length = 2048 := by
    unfold copyL
    rw [hX, Nat.min_self]
    simp
    omega
  refine bindO (bytes_ok (j + 68) (by omega)) ?_
  rw [hsame, if_pos (strEq_self _), known12 (j + 10)]
  rfl
theorem PagesCopies {b : List Int} {at_ src n : Int} (_ : b.length * 1 ≤ bigN) (_ : ∀ y ∈ b, inR .u8 y) (ha : inR .u64 at_) (hs : inR .u64 src) (hn : inR .u64 n) : ∃ k, law12_PagesCopies.f k b at_ src n = some true :=
  ⟨_, copies_ok 0 ha.1 hs.1 hn.1⟩
/-! PagesGrows -/
theorem within_ok {k : Nat} (hk : 1 ≤ k) {n lo hi : Int} (h1 : lo ≤ hi) (h2 : -1000000000000000000 ≤ lo) (h3 : hi ≤ 1000000000000000000) : ∃ r, book_Within.f k n lo hi = some r ∧ lo ≤ r ∧ r ≤ hi ∧ (lo ≤ n → n ≤ hi → r = n) := by
  obtain ⟨k, rfl⟩ : ∃ j, k = j + 1 := ⟨k - 1, by omega⟩
  simp only [book_Within.f]
  by_cases h : lo ≤ n ∧ n ≤ hi
  · rw [if_pos h.1, if_pos h.2]
    exact ⟨n, rfl, h.1, h.2, fun _ _ => rfl⟩
  · have e : iadd .i64 (isub .i64 hi lo) 1 = hi - lo + 1 := by rw [isub64 (by omega) (by omega), iadd64 (by omega) (by omega)]
    have m0 : irem .i64 n (hi - lo + 1) < hi - lo + 1 := by
      unfold irem; exact Int.tmod_lt_of_pos _ (by omega)
    have m1 : -(hi - lo + 1) < irem .i64 n (hi - lo + 1) := by
      unfold irem; exact Int.lt_tmod_of_pos _ (by omega)
    have q : (if n ≥ lo then (if n ≤ hi then (some (.inr n)) else (some (.inl ()))) else (some (.inl ())) : Option (Unit ⊕ Int)) = some (.inl ()) := by
      by_cases h0 : n ≥ lo
      · rw [if_pos h0, if_neg (by omega)]
      · rw [if_neg h0]
    rw [q, e]
    simp only [segB]
    rw [if_pos (by omega)]
    generalize irem .i64 n (hi - lo + 1) = z at m0 m1
    by_cases hz : z < 0
    · rw [if_pos hz, iadd64 (a := z) (by omega) (by omega), isub64 (by omega) (by omega), iadd64 (a := z + hi - lo) (by omega) (by omega), iadd64 (by omega) (by omega)]
      exact ⟨_, rfl, by omega, by omega, by omega⟩
    · rw [if_neg hz, iadd64 (by omega) (by omega)]
      exact ⟨_, rfl, by omega, by omega, by omega⟩
/-- A memory that begins so, of so many pages. -/
def mem (B : List Int) (s : Nat) : List Int := B ++ List.replicate (s * 1024 - B.length) 0
theorem mem_len {B : List Int} {s : Nat} (h : B.length ≤ s * 1024) : (mem B s).length = s * 1024 := by simp [mem]; omega
theorem mem_more {B : List Int} {s n : Nat} (h : B.length ≤ s * 1024) : mem B s ++ List.replicate (n * 1024) 0 = mem B (s + n) := by
  unfold mem
  rw [List.append_assoc, List.replicate_append_replicate]
  congr 2
  omega
theorem pages_ok (k : Nat) {B : List Int} {s : Nat} {m : Int} (h : B.length ≤ s * 1024) (hs : s ≤ 100000) : pages_Memory_Pages.f (k + 1) (pages_Memory.mk (mem B s) m) = some (s : Int) := by
  simp only [pages_Memory_Pages.f]
  rw [mem_len h, iquo64 (by omega) (by omega) (by omega)]
  congr 1
  omega
theorem grow_ok (k : Nat) {B : List Int} {s n m : Nat} (h : B.length ≤ s * 1024) (hm : m ≤ 8) (hs : s ≤ m) (hn : n ≤ 4) :
    pages_Memory_Grow.f (k + 2) (n : Int) (m : Int) (mem B s) = if s + n ≤ m then some (.inr ((s : Int), mem B (s + n))) else some (.inl ()) := by
  simp only [pages_Memory_Grow.f]
  refine bindO (pages_ok k h (by omega)) ?_
  have e : imul .i64 (n : Int) 1024 = ((n * 1024 : Nat) : Int) := by rw [imul64 (by omega) (by omega)]; omega
  rw [if_neg (by omega), isub64 (by omega) (by omega)]
  by_cases hc : s + n ≤ m
  · rw [if_pos hc, if_neg (by omega), tick_ok (room_small (by rw [mem_len h]; omega) (by rw [mem_len h]; omega)) (by omega)]
    simp only [Option.bind_some]
    rw [e, Int.toNat_natCast, mem_len h, if_pos ⟨by omega, room_small (by omega) (by omega), room_small (by omega) (by omega)⟩, mem_more h]
  · rw [if_neg hc, if_pos (by omega)]
theorem grow_loop (k : Nat) (l : List Int) {B : List Int} {m : Nat} (hm : m ≤ 8) (hl : l.length ≤ 1000000000000000000) : ∀ (d i s q : Nat), i + d = 10 → 1 ≤ s → s ≤ m → B.length ≤ 1024 → d < q →
    ∃ s' : Nat, 1 ≤ s' ∧ s' ≤ m ∧ loopS (law12_PagesGrows.b10 (k + 4) l (m : Int) (m : Int)) q ((s : Int), (i : Int), mem B s) = some (.inl ((s' : Int), mem B s'))
  | d, i, s, 0, _, _, _, _, hq => by omega
  | 0, i, s, q + 1, hi, h1, h2, hB, hq => by
    refine ⟨s, h1, h2, loopS_last ?_⟩
    simp only [law12_PagesGrows.b10]
    by_cases hil : (i : Int) < (l.length : Int)
    · rw [if_pos hil, if_neg (by omega)]
    · rw [if_neg hil]
  | d + 1, i, s, q + 1, hi, h1, h2, hB, hq => by
    by_cases hil : (i : Int) < (l.length : Int)
    · have hil' : i < l.length := by omega
      obtain ⟨r, hr, r0, r1, _⟩ := within_ok (k := k + 4) (by omega) (n := l[i]) (lo := 0) (hi := 4) (by decide) (by decide) (by decide)
      obtain ⟨n, rfl⟩ : ∃ n : Nat, r = (n : Int) := ⟨r.toNat, by omega⟩
      have hg := grow_ok (k + 2) (B := B) (s := s) (n := n) (m := m) (by omega) hm h2 (by omega)
      have ea : iadd .i64 (s : Int) (n : Int) = ((s + n : Nat) : Int) := by rw [iadd64 (by omega) (by omega)]; omega
      have hstep : ∃ s' : Nat, 1 ≤ s' ∧ s' ≤ m ∧ law12_PagesGrows.b10 (k + 4) l (m : Int) (m : Int) ((s : Int), (i : Int), mem B s) = some (.inl ((s' : Int), ((i + 1 : Nat) : Int), mem B s')) := by
        have ei : iadd .i64 (i : Int) 1 = ((i + 1 : Nat) : Int) := by rw [iadd64 (by omega) (by omega)]; omega
        by_cases hc : s + n ≤ m
        · refine ⟨s + n, by omega, hc, ?_⟩
          simp only [law12_PagesGrows.b10]
          rw [if_pos hil, if_pos (by omega)]
          refine segB_to (o := (((s + n : Nat) : Int), mem B (s + n))) ?_ (by dsimp only; rw [ei])
          refine bindO (o := l[i]) (by rw [at?_nat]; exact List.getElem?_eq_getElem hil') ?_
          refine bindO hr ?_
          rw [ea]
          refine segB_to (o := (((s + n : Nat) : Int), (s : Int))) (by rw [if_neg (by omega)]) ?_
          dsimp only
          refine altB_r (by rw [hg, if_pos hc]) ?_
          dsimp only
          rw [if_pos rfl]
          refine bindO (pages_ok (k + 3) (by omega) (by omega)) ?_
          rw [if_pos rfl]
          have hmax : pages_Memory_Max.f (k + 4) (pages_Memory.mk (mem B (s + n)) (m : Int)) = some (m : Int) := rfl
          refine bindO hmax ?_
          rw [if_pos rfl]
        · refine ⟨s, h1, h2, ?_⟩
          simp only [law12_PagesGrows.b10]
          rw [if_pos hil, if_pos (by omega)]
          refine segB_to (o := ((s : Int), mem B s)) ?_ (by dsimp only; rw [ei])
          refine bindO (o := l[i]) (by rw [at?_nat]; exact List.getElem?_eq_getElem hil') ?_
          refine bindO hr ?_
          rw [ea]
          refine segB_to (o := ((s : Int), (-1 : Int))) (by rw [if_pos (by omega)]) ?_
          dsimp only
          refine altB_l (by rw [hg, if_neg hc]) ?_
          rw [if_pos rfl]
          refine bindO (pages_ok (k + 3) (by omega) (by omega)) ?_
          rw [if_pos rfl]
          have hmax : pages_Memory_Max.f (k + 4) (pages_Memory.mk (mem B s) (m : Int)) = some (m : Int) := rfl
          refine bindO hmax ?_
          rw [if_pos rfl]
      obtain ⟨s1, g1, g2, hst⟩ := hstep
      obtain ⟨s', e1, e2, e3⟩ := grow_loop k l hm hl d (i + 1) s1 q (by omega) g1 g2 hB (by omega)
      exact ⟨s', e1, e2, by rw [loopS_next hst]; exact e3⟩
    · refine ⟨s, h1, h2, loopS_last ?_⟩
      simp only [law12_PagesGrows.b10]
      rw [if_neg hil]
theorem zeros_loop (k : Nat) {B : List Int} {s : Nat} (hs : s ≤ 8) (hB : B.length ≤ s * 1024) (hk : 9000 ≤ k) : loopS (law12_PagesGrows.b23 k (mem B s)) k (B.length : Int) = some (.inl ()) := by
  have hl := mem_len hB
  have := loopS_count (f := law12_PagesGrows.b23 k (mem B s)) (fun i : Nat => (((B.length + i : Nat)) : Int)) (s * 1024 - B.length) (Sum.inl ()) ?_ ?_ (s * 1024 - B.length) 0 k (by omega) (by omega)
  · exact this
  · simp only [law12_PagesGrows.b23]
    rw [hl, if_neg (by omega)]
  · intro i hi
    simp only [law12_PagesGrows.b23]
    have hg : (mem B s)[B.length + i]? = some 0 := by
      unfold mem
      rw [List.getElem?_append_right (by omega), List.getElem?_replicate, if_pos (by omega)]
    rw [hl, if_pos (by omega), if_pos ⟨by omega, by omega⟩, Int.toNat_natCast, hg]
    simp only [Option.bind_some, if_true]
    rw [iadd64 (by omega) (by omega)]
    congr 2
theorem grows_ok (j : Nat) {mx : Int} {b l : List Int} (hl : l.length ≤ 1000000000000000000) (hj : 10000 ≤ j) : law12_PagesGrows.f (j + 71) mx b l = some true := by
  obtain ⟨r, hr, r0, r1, _⟩ := within_ok (k := j + 70) (by omega) (n := mx) (lo := 1) (hi := 8) (by decide) (by decide) (by decide)
  obtain ⟨m, rfl⟩ : ∃ m : Nat, r = (m : Int) := ⟨r.toNat, by omega⟩
  simp only [law12_PagesGrows.f]
  refine bindO hr ?_
  refine altB_r (new_ok (j + 69) (n := 1) (m := m) (by omega) (by omega)) ?_
  dsimp only
  have hB : ∃ B : List Int, B.length ≤ 1024 ∧ (if (b.length : Int) > 1024 then (if 0 ≤ (1024 : Int) ∧ 1024 ≤ (b.length : Int) then (some (.inl (List.take 1024 b))) else none) else (some (.inl b)) : Option (List Int ⊕ Bool)) = some (.inl B) := by
    by_cases h : (b.length : Int) > 1024
    · exact ⟨List.take 1024 b, by simp; omega, by rw [if_pos h, if_pos ⟨by decide, by omega⟩]⟩
    · exact ⟨b, by omega, by rw [if_neg h]⟩
  obtain ⟨B, hB, e1⟩ := hB
  refine segB_to e1 ?_
  have lz : (List.replicate (1 * 1024) (0 : Int)).length = 1024 := by simp
  refine bindO (put_ok (j + 68) (b := B) (l := List.replicate (1 * 1024) 0) (h := (m : Int)) (by rw [lz]; exact hB) (by rw [lz]; decide)) ?_
  dsimp only
  have hmem : B ++ List.drop B.length (List.replicate (1 * 1024) (0 : Int)) = mem B 1 := by unfold mem; rw [List.drop_replicate]
  rw [hmem]
  obtain ⟨s, s1, s2, hloop⟩ := grow_loop (j + 66) l (B := B) (m := m) (by omega) hl 10 0 1 (j + 70) (by omega) (by omega) (by omega) hB (by omega)
  refine altB_l hloop ?_
  dsimp only
  have hBs : B.length ≤ s * 1024 := by omega
  have hlen := mem_len hBs
  refine bindO (bytes_ok (j + 68) (by rw [hlen]; omega)) ?_
  rw [hlen, if_pos (by rw [imul64 (by omega) (by omega)]; omega)]
  simp only [Int.toNat_natCast, Nat.sub_zero, List.drop_zero]
  rw [if_pos ⟨by omega, by omega, hBs⟩]
  have htake : List.take B.length (mem B s) = B := by unfold mem; exact List.take_left
  rw [htake, strEq_self]
  simp only [Bool.not_true, Bool.false_eq_true, if_false]
  refine altB_l (zeros_loop (j + 70) (by omega) hBs (by omega)) ?_
  rw [known12 (j + 10)]
  rfl
theorem PagesGrows {mx : Int} {b l : List Int} (_ : inR .i64 mx) (_ : b.length * 1 ≤ bigN) (_ : ∀ y ∈ b, inR .u8 y) (hl : l.length * 8 ≤ bigN) (_ : ∀ y ∈ l, inR .i64 y) : ∃ k, law12_PagesGrows.f k mx b l = some true :=
  ⟨_, grows_ok 10000 (by simp only [bigN] at hl; omega) (by omega)⟩
end Go.R1P

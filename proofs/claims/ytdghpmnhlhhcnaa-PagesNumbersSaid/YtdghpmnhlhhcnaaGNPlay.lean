/- Pages: PagesPlays. Both sides of a play do the same. -/
import Derived.Test.YtdghpmnhlhhcnaaGN
import Derived.Test.YtdghpmnhlhhcnaaEvBit
import Derived.Test.YtdghpmnhlhhcnaaEvIn
set_option linter.all false
namespace Go.R1N
open Go.Proofs Go.Ev
set_option maxRecDepth 100000

theorem at?_nat {β : Type} (l : List β) (i : Nat) : at? l (i : Int) = l[i]? := by simp [at?]
theorem room_small {n b : Nat} (h : n * b ≤ 140737488355328) (hn : n ≤ 140737488355328) : roomP n b := ⟨h, hn⟩
theorem tick_ok {n b k : Nat} (h : roomP n b) (hk : 0 < k) : tick n b k = some () := by
  cases k with
  | zero => omega
  | succ k => simp only [tick]; rw [if_pos h]
theorem bindO {α β : Type} {x : Option α} {f : α → Option β} {o : α} {r : Option β} (h : x = some o) (h2 : f o = r) : x.bind f = r := by rw [h]; exact h2
theorem altB_l {O O2 α : Type} {x : Option (O ⊕ O2)} {t : O → Option α} {t2 : O2 → Option α} {o : O} {r : Option α} (h : x = some (.inl o)) (h2 : t o = r) : altB x t t2 = r := by rw [h]; exact h2
theorem altB_r {O O2 α : Type} {x : Option (O ⊕ O2)} {t : O → Option α} {t2 : O2 → Option α} {o : O2} {r : Option α} (h : x = some (.inr o)) (h2 : t2 o = r) : altB x t t2 = r := by rw [h]; exact h2
theorem strEq_self (x : ByteArray) : strEq x x = true := by simp [strEq]
theorem known_ok (j : Nat) : law12_known.f (j + 60) = some true := by kernel_rfl

def By (b : List Int) : Prop := ∀ y ∈ b, 0 ≤ y ∧ y ≤ 255
/-- What is so of a memory at all times. -/
def Inv (M : Int) (b : List Int) : Prop := b.length < 1024 * (M + 1) ∧ M ≤ 512 ∧ By b
theorem Inv.small {M : Int} {b : List Int} (h : Inv M b) : b.length ≤ 600000 := by
  obtain ⟨h1, h2, _⟩ := h; omega
theorem By.set {b : List Int} (h : By b) (i : Nat) {v : Int} (h0 : 0 ≤ v) (h1 : v ≤ 255) : By (b.set i v) := by
  intro y hy
  rcases List.mem_or_eq_of_mem_set hy with h2 | h2
  · exact h y h2
  · subst h2; exact ⟨h0, h1⟩
theorem By.copy {b l : List Int} (h : By b) (hl : By l) (i n : Nat) : By (copyL b i n l) := by
  intro y hy
  unfold copyL at hy
  rcases List.mem_append.1 hy with h1 | h1
  · exact h y (List.mem_of_mem_take h1)
  · rcases List.mem_append.1 h1 with h2 | h2
    · exact hl y (List.mem_of_mem_take h2)
    · exact h y (List.mem_of_mem_drop (List.mem_of_mem_take h2))
theorem copy_len {b l : List Int} {i n : Nat} (h : i + min l.length n ≤ b.length) : (copyL b i n l).length = b.length := copyL_len b i n l h
theorem By.zeros (n : Nat) : By (List.replicate n 0) := by
  intro y hy
  have := (List.mem_replicate.1 hy).2
  subst this; decide

theorem in_there : ∀ (k : Nat) (b : List Int) (M at_ n : Int), ref12_Memory_In.f k ⟨b, M⟩ at_ n = pages_Memory_there.f k ⟨b, M⟩ at_ n
  | 0, _, _, _, _ => rfl
  | _ + 1, _, _, _, _ => rfl
theorem there_ok (k : Nat) {b : List Int} {M at_ n : Int} (hl : b.length ≤ 600000) (ha : 0 ≤ at_) : pages_Memory_there.f (k + 1) ⟨b, M⟩ at_ n = some (decide (at_ ≤ b.length ∧ n ≤ b.length - at_)) := by
  simp only [pages_Memory_there.f]
  rw [icvu64 (by omega) (by omega)]
  by_cases h : at_ ≤ (b.length : Int)
  · rw [if_pos h, isub_ok (k := .u64) ⟨by omega, by omega⟩]
    congr 1
    exact decide_eq_decide.2 ⟨fun q => ⟨h, q⟩, fun q => q.2⟩
  · rw [if_neg h, decide_eq_false (fun q => h q.1)]
theorem pages_same (k : Nat) (b : List Int) (M : Int) : ref12_Memory_Pages.f k ⟨b, M⟩ = pages_Memory_Pages.f k ⟨b, M⟩ := by cases k <;> rfl
theorem pages_ok (k : Nat) {b : List Int} {M : Int} (hl : b.length ≤ 600000) : pages_Memory_Pages.f (k + 1) ⟨b, M⟩ = some (b.length / 1024 : Int) := by
  simp only [pages_Memory_Pages.f]
  rw [iquo64 (by omega) (by omega) (by omega)]
/-! Grow -/
theorem grow_both (k : Nat) {b : List Int} {M n : Int} (h : Inv M b) : ∃ r b', pages_Memory_Grow.f (k + 2) n M b = some (r, b') ∧ ref12_Memory_Grow.f (k + 2) n M b = some (r, b') ∧ Inv M b' := by
  have hs := h.small
  obtain ⟨h1, h2, h3⟩ := h
  have key : ∀ p : Int, p = (b.length / 1024 : Int) → isub .i64 M p = M - p := fun p hp => isub64 (by omega) (by omega)
  by_cases n0 : n < 0
  · refine ⟨-1, b, ?_, ?_, h1, h2, h3⟩
    · simp only [pages_Memory_Grow.f]
      refine bindO (pages_ok k hs) ?_
      rw [if_pos n0]
    · simp only [ref12_Memory_Grow.f, pages_same]
      refine bindO (pages_ok k hs) ?_
      rw [if_pos n0]
  by_cases n1 : n > M - (b.length / 1024 : Int)
  · refine ⟨-1, b, ?_, ?_, h1, h2, h3⟩
    · simp only [pages_Memory_Grow.f]
      refine bindO (pages_ok k hs) ?_
      rw [if_neg n0, key _ rfl, if_pos n1]
    · simp only [ref12_Memory_Grow.f, pages_same]
      refine bindO (pages_ok k hs) ?_
      rw [if_neg n0, key _ rfl, if_pos n1]
  · have e : imul .i64 n 1024 = n * 1024 := imul64 (by omega) (by omega)
    obtain ⟨m, rfl⟩ : ∃ m : Nat, n = m := ⟨n.toNat, by omega⟩
    have e2 : (((m : Int) * 1024).toNat) = m * 1024 := by omega
    refine ⟨(b.length / 1024 : Int), b ++ List.replicate (m * 1024) 0, ?_, ?_, ?_, h2, ?_⟩
    · simp only [pages_Memory_Grow.f]
      refine bindO (pages_ok k hs) ?_
      rw [if_neg n0, key _ rfl, if_neg n1, tick_ok (room_small (by omega) (by omega)) (by omega)]
      simp only [Option.bind_some]
      rw [e, e2, if_pos ⟨by omega, room_small (by omega) (by omega), room_small (by omega) (by omega)⟩]
    · simp only [ref12_Memory_Grow.f, pages_same]
      refine bindO (pages_ok k hs) ?_
      rw [if_neg n0, key _ rfl, if_neg n1, if_pos (room_small (by omega) (by omega)), e, e2, if_pos ⟨by omega, room_small (by omega) (by omega), room_small (by omega) (by omega)⟩]
    · simp only [List.length_append, List.length_replicate]; omega
    · intro y hy
      rcases List.mem_append.1 hy with q | q
      · exact h3 y q
      · exact By.zeros _ y q
/-! Fill -/
def flB (b : List Int) (a : Nat) (v : Int) : Nat → List Int
  | 0 => b
  | i + 1 => (flB b a v i).set (a + i) v
theorem flB_len (b : List Int) (a : Nat) (v : Int) : ∀ i, (flB b a v i).length = b.length
  | 0 => rfl
  | i + 1 => by simp [flB, flB_len b a v i]
theorem flB_by {b : List Int} (h : By b) (a : Nat) {v : Int} (h0 : 0 ≤ v) (h1 : v ≤ 255) : ∀ i, By (flB b a v i)
  | 0 => h
  | i + 1 => (flB_by h a h0 h1 i).set _ h0 h1
theorem fill_both (k : Nat) {b : List Int} {M at_ v n : Int} (h : Inv M b) (ha : 0 ≤ at_) (hn : 0 ≤ n) (v0 : 0 ≤ v) (v1 : v ≤ 255) (hk : 700000 ≤ k) :
    ∃ r b', pages_Memory_Fill.f (k + 2) at_ v n M b = some (r, b') ∧ ref12_Memory_Fill.f (k + 2) at_ v n M b = some (r, b') ∧ Inv M b' := by
  have hs := h.small
  by_cases c : at_ ≤ b.length ∧ n ≤ b.length - at_
  · obtain ⟨a, rfl⟩ : ∃ m : Nat, at_ = m := ⟨at_.toNat, by omega⟩
    obtain ⟨m, rfl⟩ : ∃ m : Nat, n = m := ⟨n.toNat, by omega⟩
    have ht := there_ok k (M := M) (n := (m : Int)) hs ha
    rw [decide_eq_true c] at ht
    have e : ∀ i : Nat, i ≤ m → iadd .u64 (a : Int) (i : Int) = ((a + i : Nat) : Int) := fun i hi => by rw [iadd_ok (k := .u64) ⟨by omega, by omega⟩]; omega
    refine ⟨true, flB b a v m, ?_, ?_, ?_⟩
    · simp only [pages_Memory_Fill.f]
      refine bindO ht ?_
      rw [if_neg (by decide), e m (Nat.le_refl _), if_pos ⟨by omega, by omega, by omega, by omega⟩]
      refine bindO (o := flB b a v m) ?_ rfl
      refine loopS_count (fun i : Nat => ((i : Int), flB b a v i)) m _ ?_ ?_ m 0 _ (by omega) (by omega)
      · simp only [pages_Memory_Fill.b5]
        rw [e m (Nat.le_refl _), if_neg (by omega)]
      · intro i hi
        simp only [pages_Memory_Fill.b5]
        rw [e m (Nat.le_refl _), if_pos (by omega), if_pos ⟨by omega, by omega⟩]
        simp only [Int.toNat_natCast]
        have hx : a + i < (flB b a v i).length := by rw [flB_len]; omega
        have hg : (flB b a v i)[a + i]? = some ((flB b a v i)[a + i]'hx) := List.getElem?_eq_getElem hx
        rw [hg, iadd64 (by omega) (by omega)]
        rfl
    · simp only [ref12_Memory_Fill.f, in_there]
      refine bindO ht ?_
      rw [if_neg (by decide)]
      refine bindO (o := flB b a v m) ?_ rfl
      refine loopS_count (fun i : Nat => ((i : Int), flB b a v i)) m _ ?_ ?_ m 0 _ (by omega) (by omega)
      · simp only [ref12_Memory_Fill.b4]
        rw [if_neg (by omega)]
      · intro i hi
        simp only [ref12_Memory_Fill.b4]
        rw [e i (by omega), if_pos (by omega), flB_len, if_pos ⟨by omega, by omega⟩]
        simp only [Int.toNat_natCast]
        have hx : a + i < (flB b a v i).length := by rw [flB_len]; omega
        have hg : (flB b a v i)[a + i]? = some ((flB b a v i)[a + i]'hx) := List.getElem?_eq_getElem hx
        rw [hg, iadd_ok (k := .u64) ⟨by omega, by omega⟩]
        rfl
    · obtain ⟨h1, h2, h3⟩ := h
      exact ⟨by rw [flB_len]; exact h1, h2, flB_by h3 a v0 v1 m⟩
  · have ht := there_ok k (M := M) (n := n) hs ha
    rw [decide_eq_false c] at ht
    refine ⟨false, b, ?_, ?_, h⟩
    · simp only [pages_Memory_Fill.f]
      refine bindO ht ?_
      rw [if_pos (by decide)]
    · simp only [ref12_Memory_Fill.f, in_there]
      refine bindO ht ?_
      rw [if_pos (by decide)]
/-! Put -/
theorem put_same : ∀ (k : Nat) (at_ : Int) (l : List Int) (M : Int) (b : List Int), ref12_Memory_Put_1.f k at_ l M b = pages_Memory_Put_1.f k at_ l M b
  | 0, _, _, _, _ => rfl
  | k + 1, _, _, _, _ => by simp only [ref12_Memory_Put_1.f, pages_Memory_Put_1.f, in_there]
theorem put_same0 : ∀ (k : Nat) (at_ : Int) (M : Int) (l b : List Int), ref12_Memory_Put.f k at_ M l b = pages_Memory_Put_1.f k at_ l M b
  | 0, _, _, _, _ => rfl
  | k + 1, _, _, _, _ => by simp only [ref12_Memory_Put.f, pages_Memory_Put_1.f, in_there]
theorem put_same1 : ∀ (k : Nat) (at_ : Int) (M : Int) (l b : List Int), pages_Memory_Put.f k at_ M l b = pages_Memory_Put_1.f k at_ l M b
  | 0, _, _, _, _ => rfl
  | k + 1, _, _, _, _ => by simp only [pages_Memory_Put.f, pages_Memory_Put_1.f]
theorem put_ok (k : Nat) {b l : List Int} {M at_ : Int} (h : Inv M b) (ha : 0 ≤ at_) (hl : By l) (hll : l.length ≤ 9000000000000000000) :
    ∃ r b', pages_Memory_Put_1.f (k + 2) at_ l M b = some (r, b') ∧ Inv M b' := by
  have hs := h.small
  have ei : icv .u64 (l.length : Int) = (l.length : Int) := icvu64 (by omega) (by omega)
  have ht := there_ok k (M := M) (n := (l.length : Int)) hs ha
  by_cases c : at_ ≤ b.length ∧ (l.length : Int) ≤ b.length - at_
  · obtain ⟨a, rfl⟩ : ∃ m : Nat, at_ = m := ⟨at_.toNat, by omega⟩
    rw [decide_eq_true c] at ht
    have hc : a + min l.length (b.length - a) ≤ b.length := by omega
    refine ⟨true, copyL b a (b.length - a) l, ?_, ?_⟩
    · simp only [pages_Memory_Put_1.f]
      rw [ei]
      refine bindO ht ?_
      rw [if_neg (by decide), if_pos ⟨by omega, by omega, by omega⟩, Int.toNat_natCast, if_pos hc]
    · obtain ⟨h1, h2, h3⟩ := h
      exact ⟨by rw [copy_len hc]; exact h1, h2, h3.copy hl _ _⟩
  · rw [decide_eq_false c] at ht
    refine ⟨false, b, ?_, h⟩
    simp only [pages_Memory_Put_1.f]
    rw [ei]
    refine bindO ht ?_
    rw [if_pos (by decide)]
/-! Copy -/
theorem copy_take {b l : List Int} {a n : Nat} (h : l.length = n) (ha : a + n ≤ b.length) : copyL b a (b.length - a) l = copyL b a n l := by
  unfold copyL
  rw [h, Nat.min_self, Nat.min_eq_left (by omega)]
theorem copy2_both (k : Nat) {b o : List Int} {M O at_ src n : Int} (h : Inv M b) (ho : Inv O o) (ha : 0 ≤ at_) (hr : 0 ≤ src) (hn : 0 ≤ n) :
    ∃ r b', pages_Copy_1.f (k + 2) at_ src n M O b o = some (r, b') ∧ ref12_Copy_1.f (k + 2) at_ src n M O b o = some (r, b') ∧ Inv M b' := by
  have hs := h.small
  have hs2 := ho.small
  have ht := there_ok k (M := M) (n := n) hs ha
  have ht2 := there_ok k (M := O) (n := n) hs2 hr
  by_cases c : at_ ≤ b.length ∧ n ≤ b.length - at_
  · rw [decide_eq_true c] at ht
    by_cases c2 : src ≤ o.length ∧ n ≤ o.length - src
    · rw [decide_eq_true c2] at ht2
      obtain ⟨a, rfl⟩ : ∃ m : Nat, at_ = m := ⟨at_.toNat, by omega⟩
      obtain ⟨s, rfl⟩ : ∃ m : Nat, src = m := ⟨src.toNat, by omega⟩
      obtain ⟨q, rfl⟩ : ∃ m : Nat, n = m := ⟨n.toNat, by omega⟩
      have e1 : iadd .u64 (a : Int) (q : Int) = ((a + q : Nat) : Int) := by rw [iadd_ok (k := .u64) ⟨by omega, by omega⟩]; omega
      have e2 : iadd .u64 (s : Int) (q : Int) = ((s + q : Nat) : Int) := by rw [iadd_ok (k := .u64) ⟨by omega, by omega⟩]; omega
      have hX : (List.take q (List.drop s o)).length = q := by simp; omega
      have hc : a + min (List.take q (List.drop s o)).length q ≤ b.length := by omega
      refine ⟨true, copyL b a q (List.take q (List.drop s o)), ?_, ?_, ?_⟩
      · simp only [pages_Copy_1.f]
        refine bindO ht ?_
        rw [if_neg (by decide)]
        refine bindO ht2 ?_
        rw [if_neg (by decide), e1, e2]
        simp only [Int.toNat_natCast, Nat.add_sub_cancel_left]
        rw [if_pos ⟨by omega, by omega, by omega, by omega⟩, if_pos ⟨by omega, by omega, by omega, by omega⟩, if_pos hc]
      · simp only [ref12_Copy_1.f, in_there]
        refine bindO ht ?_
        rw [if_neg (by decide)]
        refine bindO ht2 ?_
        rw [if_neg (by decide), e2]
        simp only [Int.toNat_natCast, Nat.add_sub_cancel_left]
        rw [if_pos ⟨by omega, by omega, by omega, by omega⟩, if_pos (room_small (by omega) (by omega)), if_pos ⟨by omega, by omega, by omega⟩, if_pos (by omega), copy_take hX (by omega)]
      · obtain ⟨h1, h2, h3⟩ := h
        exact ⟨by rw [copy_len hc]; exact h1, h2, h3.copy (fun y hy => ho.2.2 y (List.mem_of_mem_drop (List.mem_of_mem_take hy))) _ _⟩
    · rw [decide_eq_false c2] at ht2
      refine ⟨false, b, ?_, ?_, h⟩
      · simp only [pages_Copy_1.f]
        refine bindO ht ?_
        rw [if_neg (by decide)]
        refine bindO ht2 ?_
        rw [if_pos (by decide)]
      · simp only [ref12_Copy_1.f, in_there]
        refine bindO ht ?_
        rw [if_neg (by decide)]
        refine bindO ht2 ?_
        rw [if_pos (by decide)]
  · rw [decide_eq_false c] at ht
    refine ⟨false, b, ?_, ?_, h⟩
    · simp only [pages_Copy_1.f]
      refine bindO ht ?_
      rw [if_pos (by decide)]
    · simp only [ref12_Copy_1.f, in_there]
      refine bindO ht ?_
      rw [if_pos (by decide)]
theorem copy_same : ∀ (k : Nat) (at_ src n M : Int) (b : List Int), pages_Copy.f k at_ src n M b = pages_Copy_1.f k at_ src n M M b b
  | 0, _, _, _, _, _ => rfl
  | _ + 1, _, _, _, _, _ => rfl
theorem copy_same2 : ∀ (k : Nat) (at_ src n M : Int) (b : List Int), ref12_Copy.f k at_ src n M b = ref12_Copy_1.f k at_ src n M M b b
  | 0, _, _, _, _, _ => rfl
  | _ + 1, _, _, _, _, _ => rfl
end Go.R1N

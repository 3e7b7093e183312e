/- Pages: Load, Store; do; play. -/
import Derived.Test.YtdghpmnhlhhcnaaGNPlay
set_option linter.all false
namespace Go.R1N
open Go.Proofs Go.Ev
set_option maxRecDepth 100000

theorem segB_in {O α : Type} {x : Option (O ⊕ α)} {t : O → Option α} {a : α} (h : x = some (.inr a)) : segB x t = some a := by rw [h]; rfl
/-! Load -/
def valB : List Int → Int
  | [] => 0
  | x :: r => x + 256 * valB r
theorem valB_nonneg : ∀ {l : List Int}, By l → 0 ≤ valB l
  | [], _ => Int.le_refl _
  | x :: r, h => by
    have := valB_nonneg (l := r) (fun y hy => h y (List.mem_cons_of_mem _ hy))
    have := h x (List.mem_cons_self ..)
    simp only [valB]; omega
theorem valB_lt : ∀ {l : List Int}, By l → valB l < 256 ^ l.length
  | [], _ => by simp [valB]
  | x :: r, h => by
    have := valB_lt (l := r) (fun y hy => h y (List.mem_cons_of_mem _ hy))
    have := h x (List.mem_cons_self ..)
    simp only [valB, List.length_cons, Int.pow_succ]; omega
theorem valB_snoc : ∀ (l : List Int) (x : Int), valB (l ++ [x]) = valB l + x * 256 ^ l.length
  | [], x => by simp [valB]
  | y :: r, x => by
    simp only [List.cons_append, valB, valB_snoc r x, List.length_cons, Int.pow_succ]
    rw [Int.mul_add, ← Int.add_assoc]
    congr 1
    rw [← Int.mul_assoc, Int.mul_comm 256 x, Int.mul_assoc, Int.mul_comm 256]
theorem pow256 (i : Nat) : (256 : Int) ^ i = 2 ^ (8 * i) := by rw [Int.pow_mul]; rfl
theorem lt64 {l : List Int} (h : By l) (hl : l.length ≤ 8) : valB l ≤ 18446744073709551615 := by
  have h1 := valB_lt h
  rw [pow256] at h1
  have : (2 : Int) ^ (8 * l.length) ≤ 2 ^ 64 := pow2_le (by omega)
  have h2 : (2 : Int) ^ 64 = 18446744073709551616 := rfl
  omega
theorem by_take {l : List Int} (h : By l) (i : Nat) : By (l.take i) := fun y hy => h y (List.mem_of_mem_take hy)
theorem by_drop {l : List Int} (h : By l) (i : Nat) : By (l.drop i) := fun y hy => h y (List.mem_of_mem_drop hy)
theorem width_ok (k : Nat) (n : Int) : pages_width.f (k + 1) n = some (decide (n = 1 ∨ n = 2 ∨ n = 4 ∨ n = 8)) := by
  simp only [pages_width.f]
  by_cases h1 : n = 1
  · rw [if_pos h1, decide_eq_true (Or.inl h1)]
  by_cases h2 : n = 2
  · rw [if_neg h1, if_pos h2, decide_eq_true (Or.inr (Or.inl h2))]
  by_cases h3 : n = 4
  · rw [if_neg h1, if_neg h2, if_pos h3, decide_eq_true (Or.inr (Or.inr (Or.inl h3)))]
  · rw [if_neg h1, if_neg h2, if_neg h3]
    congr 1
    exact decide_eq_decide.2 ⟨fun h => Or.inr (Or.inr (Or.inr h)), fun h => by omega⟩
theorem load_loop (k K : Nat) {b : List Int} {M : Int} {a n : Nat} (h : By b) (hb : b.length ≤ 600000) (hn : n ≤ 8) (ha : a + n ≤ b.length) (hK : 100 ≤ K) :
    loopS (pages_Memory_Load.b5 k ⟨b, M⟩ (a : Int) (n : Int)) K ((0 : Int), (0 : Int)) = some (valB ((b.drop a).take n)) := by
  refine loopS_count (fun i : Nat => (valB ((b.drop a).take i), (i : Int))) n _ ?_ ?_ n 0 _ (by omega) (by omega)
  · simp only [pages_Memory_Load.b5]
    rw [if_neg (by omega)]
  · intro i hi
    simp only [pages_Memory_Load.b5]
    have hx : i < (b.drop a).length := by simp; omega
    have hxb : a + i < b.length := by omega
    have ei : icv .u64 (i : Int) = (i : Int) := icvu64 (by omega) (by omega)
    have ea : iadd .u64 (a : Int) (i : Int) = ((a + i : Nat) : Int) := by rw [iadd_ok (k := .u64) ⟨by omega, by omega⟩]; omega
    have em : imul .i64 8 (i : Int) = ((8 * i : Nat) : Int) := by rw [imul64 (by omega) (by omega)]; omega
    have hg : (b.drop a)[i] = b[a + i] := by simp
    have hr := h b[a + i] (List.getElem_mem _)
    have ht : (b.drop a).take (i + 1) = (b.drop a).take i ++ [b[a + i]] := by rw [List.take_succ_eq_append_getElem hx, hg]
    have hlen : ((b.drop a).take i).length = i := by simp; omega
    have hv := lt64 (by_take (by_drop h a) (i + 1)) (by simp; omega)
    have h0 := valB_nonneg (by_take (by_drop h a) i)
    have h1 := valB_lt (by_take (by_drop h a) i)
    rw [hlen, pow256] at h1
    have hv' : valB ((b.drop a).take i) + b[a + i] * 2 ^ (8 * i) ≤ 18446744073709551615 := by
      rw [ht, valB_snoc, hlen, pow256] at hv; exact hv
    have hp : (0 : Int) ≤ b[a + i] * 2 ^ (8 * i) := Int.mul_nonneg hr.1 (Int.le_of_lt (Int.pow_pos (by decide)))
    have hw : IntKind.u64.wrap (valB ((b.drop a).take i)) = valB ((b.drop a).take i) := wrap_inR (k := .u64) ⟨h0, by omega⟩
    have hor := ior_group (k := .u64) (j := 8 * i) (by show 8 * i ≤ 64; omega) h0 h1 hr.1
    rw [hw, wrap_inR (k := .u64) ⟨by omega, hv'⟩] at hor
    rw [if_pos (by omega), ei, ea]
    refine bindO (o := b[a + i]) (by rw [at?_nat]; exact List.getElem?_eq_getElem hxb) ?_
    rw [em, if_pos (by omega), icvu64 hr.1 (by omega), hor, iadd64 (by omega) (by omega), ht, valB_snoc, hlen, pow256]
    rfl
theorem load_loop2 (k K : Nat) {b : List Int} {M : Int} {a n : Nat} (h : By b) (hb : b.length ≤ 600000) (hn : n ≤ 8) (hn0 : 0 < n) (ha : a + n ≤ b.length) (hK : 100 ≤ K) :
    loopS (ref12_Memory_Load.b5 k ⟨b, M⟩ (a : Int)) K ((0 : Int), isub .i64 (n : Int) 1) = some (valB ((b.drop a).take n)) := by
  have hd : ∀ i, By (((b.drop a).take n).drop i) := fun i => by_drop (by_take (by_drop h a) n) i
  have hl : ((b.drop a).take n).length = n := by simp; omega
  have hz : valB (((b.drop a).take n).drop (n - 0)) = 0 := by rw [List.drop_eq_nil_of_le (by omega)]; rfl
  have hs : ((0 : Int), isub .i64 (n : Int) 1) = (valB (((b.drop a).take n).drop (n - 0)), (n : Int) - 1 - ((0 : Nat) : Int)) := by
    rw [hz, isub64 (by omega) (by omega)]; simp
  rw [hs]
  refine loopS_count (fun i : Nat => (valB (((b.drop a).take n).drop (n - i)), (n : Int) - 1 - (i : Int))) n _ ?_ ?_ n 0 _ (by omega) (by omega)
  · simp only [ref12_Memory_Load.b5]
    rw [if_neg (by omega), Nat.sub_self, List.drop_zero]
  · intro i hi
    simp only [ref12_Memory_Load.b5]
    have hj : n - (i + 1) < ((b.drop a).take n).length := by omega
    have hxb : a + (n - (i + 1)) < b.length := by omega
    have ec : icv .i64 (a : Int) = (a : Int) := icv64 (by omega) (by omega)
    have ea : iadd .i64 (a : Int) ((n : Int) - 1 - (i : Int)) = ((a + (n - (i + 1)) : Nat) : Int) := by rw [iadd64 (by omega) (by omega)]; omega
    have hr := h b[a + (n - (i + 1))] (List.getElem_mem _)
    have ht : ((b.drop a).take n).drop (n - (i + 1)) = b[a + (n - (i + 1))] :: ((b.drop a).take n).drop (n - i) := by
      rw [List.drop_eq_getElem_cons hj, show n - (i + 1) + 1 = n - i from by omega]
      congr 1
      simp
    have hv := lt64 (hd (n - (i + 1))) (by simp; omega)
    have h0 := valB_nonneg (hd (n - i))
    rw [ht] at hv
    simp only [valB] at hv
    have hsh : ishl .u64 (valB (((b.drop a).take n).drop (n - i))) 8 = valB (((b.drop a).take n).drop (n - i)) * 2 ^ 8 := ishl_ok (k := .u64) (j := 8) (by decide) ⟨by omega, by omega⟩
    have hor := ior_group (k := .u64) (j := 8) (by decide) hr.1 (by omega) h0
    rw [wrap_inR (k := .u64) ⟨hr.1, by omega⟩, wrap_inR (k := .u64) ⟨by omega, by omega⟩] at hor
    rw [if_pos (by omega), ec, ea]
    refine bindO (o := b[a + (n - (i + 1))]) (by rw [at?_nat]; exact List.getElem?_eq_getElem hxb) ?_
    rw [icvu64 hr.1 (by omega), ior_comm]
    have hor' : ior .u64 b[a + (n - (i + 1))] (ishl .u64 (valB (((b.drop a).take n).drop (n - i))) 8) = b[a + (n - (i + 1))] + valB (((b.drop a).take n).drop (n - i)) * 2 ^ 8 := hor
    rw [hor', isub64 (by omega) (by omega), ht]
    simp only [valB]
    congr 3
    · omega
    · omega
theorem load_both (k : Nat) {b : List Int} {M at_ n : Int} (h : Inv M b) (ha : 0 ≤ at_) (hk : 100 ≤ k) :
    ∃ r, pages_Memory_Load.f (k + 2) ⟨b, M⟩ at_ n = some r ∧ ref12_Memory_Load.f (k + 2) ⟨b, M⟩ at_ n = some r := by
  have hs := h.small
  by_cases w : n = 1 ∨ n = 2 ∨ n = 4 ∨ n = 8
  · have ei : icv .u64 n = n := icvu64 (by omega) (by omega)
    have ht := there_ok k (M := M) (n := n) hs ha
    by_cases c : at_ ≤ b.length ∧ n ≤ b.length - at_
    · rw [decide_eq_true c] at ht
      obtain ⟨a, rfl⟩ : ∃ m : Nat, at_ = m := ⟨at_.toNat, by omega⟩
      obtain ⟨m, rfl⟩ : ∃ m : Nat, n = m := ⟨n.toNat, by omega⟩
      refine ⟨(valB ((b.drop a).take m), true), ?_, ?_⟩
      · simp only [pages_Memory_Load.f]
        refine bindO (width_ok k _) ?_
        rw [decide_eq_true w, if_neg (by decide), ei]
        refine bindO ht ?_
        rw [if_neg (by decide)]
        refine bindO (load_loop _ _ h.2.2 hs (by omega) (by omega) (by omega)) rfl
      · simp only [ref12_Memory_Load.f, in_there, ei]
        refine segB_to (o := ()) ?_ ?_
        · rw [ht]
          simp only [Option.bind_some, Bool.not_true, Bool.false_eq_true, if_false]
          rcases w with w | w | w | w <;> simp [w]
        · refine bindO (load_loop2 _ _ h.2.2 hs (by omega) (by omega) (by omega) (by omega)) rfl
    · rw [decide_eq_false c] at ht
      refine ⟨(0, false), ?_, ?_⟩
      · simp only [pages_Memory_Load.f]
        refine bindO (width_ok k _) ?_
        rw [decide_eq_true w, if_neg (by decide), ei]
        refine bindO ht ?_
        rw [if_pos (by decide)]
      · simp only [ref12_Memory_Load.f, in_there, ei]
        refine segB_in ?_
        rw [ht]
        simp only [Option.bind_some, Bool.not_false, if_true]
        rcases w with w | w | w | w <;> simp [w]
  · refine ⟨(0, false), ?_, ?_⟩
    · simp only [pages_Memory_Load.f]
      refine bindO (width_ok k _) ?_
      rw [decide_eq_false w, if_pos (by decide)]
    · simp only [ref12_Memory_Load.f]
      refine segB_in ?_
      rw [if_neg (by omega), if_neg (by omega), if_neg (by omega), if_neg (by omega)]
/-! Store -/
def stB (b : List Int) (a : Nat) (v : Int) : Nat → List Int
  | 0 => b
  | i + 1 => (stB b a v i).set (a + i) (v / 2 ^ (8 * i) % 256)
theorem stB_len (b : List Int) (a : Nat) (v : Int) : ∀ i, (stB b a v i).length = b.length
  | 0 => rfl
  | i + 1 => by simp [stB, stB_len b a v i]
theorem stB_by {b : List Int} (h : By b) (a : Nat) (v : Int) : ∀ i, By (stB b a v i)
  | 0 => h
  | i + 1 => (stB_by h a v i).set _ (by omega) (by omega)
theorem icv8 (x : Int) : icv .u8 x = x % 256 := wrap_u8 x
theorem store_loop (k K : Nat) {b : List Int} {v : Int} {a n : Nat} (hb : b.length ≤ 600000) (hn : n ≤ 8) (ha : a + n ≤ b.length) (hK : 100 ≤ K) :
    loopS (pages_Memory_Store.b4 k (a : Int) (n : Int) v) K ((0 : Int), b) = some (stB b a v n) := by
  refine loopS_count (fun i : Nat => ((i : Int), stB b a v i)) n _ ?_ ?_ n 0 _ (by omega) (by omega)
  · simp only [pages_Memory_Store.b4]
    rw [if_neg (by omega)]
  · intro i hi
    simp only [pages_Memory_Store.b4]
    have ei : icv .u64 (i : Int) = (i : Int) := icvu64 (by omega) (by omega)
    have ea : iadd .u64 (a : Int) (i : Int) = ((a + i : Nat) : Int) := by rw [iadd_ok (k := .u64) ⟨by omega, by omega⟩]; omega
    have em : imul .i64 8 (i : Int) = ((8 * i : Nat) : Int) := by rw [imul64 (by omega) (by omega)]; omega
    have hx : a + i < (stB b a v i).length := by rw [stB_len]; omega
    have hg : (stB b a v i)[a + i]? = some ((stB b a v i)[a + i]'hx) := List.getElem?_eq_getElem hx
    rw [if_pos (by omega), em, if_pos (by omega), ei, ea, if_pos ⟨by omega, by omega⟩, Int.toNat_natCast, hg, ishr_ok (k := .u64) (j := 8 * i) (by show 8 * i ≤ 64; omega), icv8, iadd64 (by omega) (by omega)]
    rfl
theorem store_loop2 (k K : Nat) {b : List Int} {v : Int} {a n : Nat} (hb : b.length ≤ 600000) (hn : n ≤ 8) (ha : a + n ≤ b.length) (hK : 100 ≤ K) :
    loopS (ref12_Memory_Store.b4 k (a : Int) (n : Int)) K (v, (0 : Int), b) = some (stB b a v n) := by
  have hs : (v, (0 : Int), b) = (v / 2 ^ (8 * 0), ((0 : Nat) : Int), stB b a v 0) := by simp [stB]
  rw [hs]
  refine loopS_count (fun i : Nat => (v / 2 ^ (8 * i), (i : Int), stB b a v i)) n _ ?_ ?_ n 0 _ (by omega) (by omega)
  · simp only [ref12_Memory_Store.b4]
    rw [if_neg (by omega)]
  · intro i hi
    simp only [ref12_Memory_Store.b4]
    have ec : icv .i64 (a : Int) = (a : Int) := icv64 (by omega) (by omega)
    have ea : iadd .i64 (a : Int) (i : Int) = ((a + i : Nat) : Int) := by rw [iadd64 (by omega) (by omega)]; omega
    have hx : a + i < (stB b a v i).length := by rw [stB_len]; omega
    have hg : (stB b a v i)[a + i]? = some ((stB b a v i)[a + i]'hx) := List.getElem?_eq_getElem hx
    have hsh : ishr .u64 (v / 2 ^ (8 * i)) 8 = v / 2 ^ (8 * (i + 1)) := by
      have := ishr_ok (k := .u64) (a := v / 2 ^ (8 * i)) (j := 8) (by decide)
      rw [show ishr .u64 (v / 2 ^ (8 * i)) 8 = v / 2 ^ (8 * i) / 2 ^ 8 from this, Int.ediv_ediv_of_nonneg (Int.le_of_lt (Int.pow_pos (by decide))), ← Int.pow_add]
      rfl
    rw [if_pos (by omega), ec, ea, if_pos ⟨by omega, by omega⟩, Int.toNat_natCast, hg, hsh, icv8, iadd64 (by omega) (by omega)]
    rfl
theorem store_both (k : Nat) {b : List Int} {M at_ n v : Int} (h : Inv M b) (ha : 0 ≤ at_) (hk : 100 ≤ k) :
    ∃ r b', pages_Memory_Store.f (k + 2) at_ n v M b = some (r, b') ∧ ref12_Memory_Store.f (k + 2) at_ n v M b = some (r, b') ∧ Inv M b' := by
  have hs := h.small
  by_cases w : n = 1 ∨ n = 2 ∨ n = 4 ∨ n = 8
  · have ei : icv .u64 n = n := icvu64 (by omega) (by omega)
    have ht := there_ok k (M := M) (n := n) hs ha
    by_cases c : at_ ≤ b.length ∧ n ≤ b.length - at_
    · rw [decide_eq_true c] at ht
      obtain ⟨a, rfl⟩ : ∃ m : Nat, at_ = m := ⟨at_.toNat, by omega⟩
      obtain ⟨m, rfl⟩ : ∃ m : Nat, n = m := ⟨n.toNat, by omega⟩
      refine ⟨true, stB b a v m, ?_, ?_, by rw [stB_len]; exact h.1, h.2.1, stB_by h.2.2 a v m⟩
      · simp only [pages_Memory_Store.f]
        refine bindO (width_ok k _) ?_
        rw [decide_eq_true w, if_neg (by decide), ei]
        refine bindO ht ?_
        rw [if_neg (by decide)]
        refine bindO (store_loop _ _ hs (by omega) (by omega) (by omega)) rfl
      · simp only [ref12_Memory_Store.f, in_there, ei]
        refine segB_to (o := ()) ?_ ?_
        · rw [ht]
          simp only [Option.bind_some, Bool.not_true, Bool.false_eq_true, if_false]
          rcases w with w | w | w | w <;> simp [w]
        · refine bindO (store_loop2 _ _ hs (by omega) (by omega) (by omega)) rfl
    · rw [decide_eq_false c] at ht
      refine ⟨false, b, ?_, ?_, h⟩
      · simp only [pages_Memory_Store.f]
        refine bindO (width_ok k _) ?_
        rw [decide_eq_true w, if_neg (by decide), ei]
        refine bindO ht ?_
        rw [if_pos (by decide)]
      · simp only [ref12_Memory_Store.f, in_there, ei]
        refine segB_in ?_
        rw [ht]
        simp only [Option.bind_some, Bool.not_false, if_true]
        rcases w with w | w | w | w <;> simp [w]
  · refine ⟨false, b, ?_, ?_, h⟩
    · simp only [pages_Memory_Store.f]
      refine bindO (width_ok k _) ?_
      rw [decide_eq_false w, if_pos (by decide)]
    · simp only [ref12_Memory_Store.f]
      refine segB_in ?_
      rw [if_neg (by omega), if_neg (by omega), if_neg (by omega), if_neg (by omega)]
end Go.R1N

/- LebBack -/
import Derived.Test.YtdghpmnhlhhcnaaG1Tells
set_option linter.all false
namespace Go.R1
open Go.Proofs Go.Ev

theorem rowL_app : ∀ (xs : List Int) (y : Int) (r : List Int) (m : Nat), (∀ x ∈ xs, ¬ x < 128) → y < 128 → xs.length < m → rowL m (xs ++ y :: r) = some (xs ++ [y])
  | [], y, r, 0, _, _, h => by simp at h
  | [], y, r, m + 1, _, hy, _ => by simp [rowL, hy]
  | x :: xs, y, r, 0, _, _, h => by simp at h
  | x :: xs, y, r, m + 1, hx, hy, h => by
    simp only [List.cons_append, rowL]
    rw [if_neg (hx x (by simp)), rowL_app xs y r m (fun z hz => hx z (by simp [hz])) hy (by simp at h; omega)]
    rfl
theorem rowL_none : ∀ (xs : List Int) (m : Nat), (∀ x ∈ xs, ¬ x < 128) → rowL m xs = none
  | [], 0, _ => rfl
  | [], _ + 1, _ => rfl
  | x :: xs, 0, _ => rfl
  | x :: xs, m + 1, hx => by
    simp only [rowL]
    rw [if_neg (hx x (by simp)), rowL_none xs m (fun z hz => hx z (by simp [hz]))]
    rfl
/-! what is written is the number again -/
theorem runU_val : ∀ (f : Nat) (n : Int) (l : List Int), 0 ≤ n → n < 128 ^ (f + 1) → (∀ x ∈ l, ¬ x < 128) → ∃ xs : List Int, (runU f n l).2 = l ++ xs ∧ (∀ x ∈ xs, ¬ x < 128 ∧ x < 256) ∧ valL (xs ++ [(runU f n l).1]) = n ∧ 0 ≤ (runU f n l).1 ∧ (runU f n l).1 < 128
  | 0, n, l, h0, h1, _ => ⟨[], by simp [runU], by simp, by simp [runU, valL]; simp at h1; omega, by simpa [runU] using h0, by simpa [runU] using h1⟩
  | f + 1, n, l, h0, h1, hl => by
    by_cases hn : n > 127
    · have e : runU (f + 1) n l = runU f (n / 128) (l ++ [n % 128 + 128]) := by simp [runU, hn]
      obtain ⟨xs, g1, g2, g3, g4, g5⟩ := runU_val f (n / 128) (l ++ [n % 128 + 128]) (by omega) (by rw [Int.pow_succ] at h1; omega) (by
        intro x hx
        rcases List.mem_append.1 hx with hx | hx
        · exact hl x hx
        · simp at hx; omega)
      refine ⟨(n % 128 + 128) :: xs, by rw [e, g1]; simp, ?_, ?_, by rw [e]; exact g4, by rw [e]; exact g5⟩
      · intro x hx
        rcases List.mem_cons.1 hx with rfl | hx
        · omega
        · exact g2 x hx
      · rw [e]
        simp only [List.cons_append, valL, g3]
        omega
    · have e : runU (f + 1) n l = (n, l) := by simp [runU, hn]
      rw [e]
      exact ⟨[], by simp, by simp, by simp [valL]; omega, h0, by omega⟩
theorem encU_val {n : Int} (h0 : 0 ≤ n) (h1 : n < 18446744073709551616) : ∃ (xs : List Int) (y : Int), encU n = xs ++ [y] ∧ (∀ x ∈ xs, ¬ x < 128 ∧ x < 256) ∧ valL (xs ++ [y]) = n ∧ 0 ≤ y ∧ y < 128 := by
  obtain ⟨xs, g1, g2, g3, g4, g5⟩ := runU_val 10 n [] h0 (by omega) (by simp)
  exact ⟨xs, _, by simp [encU, g1], g2, g3, g4, g5⟩
/-- With a sign: what is joined is the number, or that with 2^(7k) more. -/
theorem runS_val : ∀ (f : Nat) (n : Int) (l : List Int), -(64 * 128 ^ f) ≤ n → n < 64 * 128 ^ f → (∀ x ∈ l, ¬ x < 128) → ∃ xs : List Int, (runS f n l).2 = l ++ xs ∧ (∀ x ∈ xs, ¬ x < 128 ∧ x < 256) ∧ -64 ≤ (runS f n l).1 ∧ (runS f n l).1 < 64 ∧
    valL (xs ++ [(runS f n l).1 % 128]) = n + (if (runS f n l).1 < 0 then 128 ^ (xs.length + 1) else 0)
  | 0, n, l, h0, h1, _ => by
    simp at h0 h1
    refine ⟨[], by simp [runS], by simp, by simpa [runS] using h0, by simpa [runS] using h1, ?_⟩
    simp only [runS, List.nil_append, valL, List.length_nil, Nat.zero_add, Int.pow_one]
    split <;> omega
  | f + 1, n, l, h0, h1, hl => by
    by_cases hn : n < -64 ∨ n ≥ 64
    · have e : runS (f + 1) n l = runS f (n / 128) (l ++ [n % 128 + 128]) := by simp only [runS]; rw [if_pos hn]
      rw [Int.pow_succ] at h0 h1
      obtain ⟨xs, g1, g2, g3, g4, g5⟩ := runS_val f (n / 128) (l ++ [n % 128 + 128]) (by omega) (by omega) (by
        intro x hx
        rcases List.mem_append.1 hx with hx | hx
        · exact hl x hx
        · simp at hx; omega)
      refine ⟨(n % 128 + 128) :: xs, by rw [e, g1]; simp, ?_, by rw [e]; exact g3, by rw [e]; exact g4, ?_⟩
      · intro x hx
        rcases List.mem_cons.1 hx with rfl | hx
        · omega
        · exact g2 x hx
      · rw [e]
        simp only [List.cons_append, valL, g5, List.length_cons]
        split
        · rw [Int.pow_succ (128 : Int) (xs.length + 1)]; omega
        · omega
    · have e : runS (f + 1) n l = (n, l) := by simp only [runS]; rw [if_neg hn]
      rw [e]
      refine ⟨[], by simp, by simp, by simp; omega, by simp; omega, ?_⟩
      simp only [List.nil_append, valL, List.length_nil, Nat.zero_add, Int.pow_one]
      split <;> omega
theorem encS_val {n : Int} (h0 : -9223372036854775808 ≤ n) (h1 : n ≤ 9223372036854775807) : ∃ (xs : List Int) (z : Int), encS n = xs ++ [z % 128] ∧ (∀ x ∈ xs, ¬ x < 128 ∧ x < 256) ∧ -64 ≤ z ∧ z < 64 ∧ valL (xs ++ [z % 128]) = n + (if z < 0 then 128 ^ (xs.length + 1) else 0) := by
  obtain ⟨xs, g1, g2, g3, g4, g5⟩ := runS_val 9 n [] (by omega) (by omega) (by simp)
  exact ⟨xs, _, by simp [encS, g1], g2, g3, g4, g5⟩
theorem valL_div (xs : List Int) (y : Int) (hy : 0 ≤ y) (hy1 : y < 128) : valL (xs ++ [y]) / 128 ^ xs.length = y := by
  rw [valL_snoc, Int.emod_eq_of_lt hy hy1, Int.add_mul_ediv_right _ _ (Int.ne_of_gt (Int.pow_pos (by decide))), Int.ediv_eq_zero_of_lt (valL_nonneg _) (valL_lt _)]
  omega
theorem rowOf_app {b xs : List Int} {y : Int} (r : List Int) (hx : ∀ x ∈ xs, ¬ x < 128) (hy : y < 128) (hl : xs.length < 10) : rowOf (b ++ (xs ++ y :: r)) (b.length : Int) 64 = some (xs ++ [y]) := by
  unfold rowOf
  rw [if_neg (by omega), Int.toNat_natCast, List.drop_left]
  exact rowL_app xs y r _ hx hy (by have : mostN 64 = 10 := by decide
                                    omega)
theorem lastB_snoc (xs : List Int) (y : Int) : lastB (xs ++ [y]) = y := by
  unfold lastB
  simp
theorem readU_back {b : List Int} {n : Int} (r : List Int) {xs : List Int} {y : Int} (hx : ∀ x ∈ xs, ¬ x < 128) (hy0 : 0 ≤ y) (hy : y < 128) (hl : xs.length < 10) (hv : valL (xs ++ [y]) = n) (hn : n < 18446744073709551616) :
    readUV (b ++ (xs ++ y :: r)) (b.length : Int) 64 = (n, ((b.length + (xs.length + 1) : Nat) : Int), true) := by
  unfold readUV
  rw [rowOf_app r hx hy hl]
  simp only
  rw [if_neg]
  · have h0 := valL_nonneg (xs ++ [y])
    rw [hv, wrap_u64, Int.emod_eq_of_lt (by omega) hn]
    simp
  · rintro ⟨h1, h2⟩
    apply h2
    rw [lastB_snoc]
    have hm : mostN 64 = 10 := by decide
    have hln : lastN 64 = 1 := by decide
    simp only [List.length_append, List.length_cons, List.length_nil, hm] at h1
    have h9 : xs.length = 9 := by omega
    have := valL_div xs y hy0 hy
    rw [hv, h9] at this
    have hp : (128 : Int) ^ 9 = 9223372036854775808 := by decide
    rw [hp] at this
    rw [hln]
    omega
theorem sign_bit {y : Int} (h0 : 0 ≤ y) (h1 : y < 128) : iand .u8 y 64 ≠ 0 ↔ 64 ≤ y := by
  have key : ∀ m : Fin 128, iand .u8 ((m.val : Nat) : Int) 64 ≠ 0 ↔ 64 ≤ ((m.val : Nat) : Int) := by decide +kernel
  have := key ⟨y.toNat, by omega⟩
  simp only [Int.toNat_of_nonneg h0] at this
  exact this
theorem readS_back {b : List Int} {n z : Int} (r : List Int) {xs : List Int} (hx : ∀ x ∈ xs, ¬ x < 128) (hz0 : -64 ≤ z) (hz1 : z < 64) (hl : xs.length < 10) (hv : valL (xs ++ [z % 128]) = n + (if z < 0 then 128 ^ (xs.length + 1) else 0))
    (hn0 : -9223372036854775808 ≤ n) (hn1 : n ≤ 9223372036854775807) : readSV (b ++ (xs ++ z % 128 :: r)) (b.length : Int) 64 = (n, ((b.length + (xs.length + 1) : Nat) : Int), true) := by
  have hy0 : 0 ≤ z % 128 := by omega
  have hy1 : z % 128 < 128 := by omega
  have hd := valL_div xs (z % 128) hy0 hy1
  have h0 := valL_nonneg (xs ++ [z % 128])
  unfold readSV
  rw [rowOf_app r hx hy1 hl]
  simp only
  have hm : mostN 64 = 10 := by decide
  have hln : lastN 64 = 1 := by decide
  have hp : (128 : Int) ^ 9 = 9223372036854775808 := by decide
  have hp10 : (128 : Int) ^ 10 = 1180591620717411303424 := by decide
  rw [if_neg]
  · congr 1
    · unfold svalL
      rw [lastB_snoc]
      simp only [List.length_append, List.length_cons, List.length_nil, Nat.zero_add]
      have hsb := sign_bit hy0 hy1
      by_cases hL : 7 * (xs.length + 1) < 64
      · by_cases hz : z < 0
        · rw [if_pos ⟨hL, hsb.2 (by omega)⟩, hv, if_pos hz, ← pow128, wrap_i64]
          generalize (128 : Int) ^ (xs.length + 1) = p
          omega
        · rw [if_neg (fun h => by have := hsb.1 h.2; omega), hv, if_neg hz, wrap_i64]
          omega
      · have h9 : xs.length = 9 := by omega
        rw [if_neg (by omega), hv, h9, wrap_i64]
        simp only [hp10]
        split <;> omega
    · simp
  · rintro ⟨h1, h2⟩
    simp only [List.length_append, List.length_cons, List.length_nil, hm] at h1
    have h9 : xs.length = 9 := by omega
    apply h2
    rw [lastB_snoc, hln]
    rw [hv, h9, hp] at hd
    simp only [hp10] at hd
    have : z % 128 = 0 ∨ z % 128 = 127 := by
      split at hd <;> omega
    rcases this with h | h
    · rw [h]; decide
    · rw [h]; decide
/-! pads -/
def Pad (v : Int) (c : List Int) : Prop := ∃ (xs : List Int) (y : Int), c = xs ++ [y] ∧ (∀ x ∈ xs, ¬ x < 128 ∧ x < 256) ∧ 0 ≤ y ∧ y < 128 ∧ xs.length < 10 ∧ valL (xs ++ [y]) = v
theorem pad_loop (k : Nat) {v : Int} : ∀ (p : Nat) (c : List Int) (m : Nat), Pad v c → p < m → p ≤ 100 → ∃ c', loopS (law4_LebBack.b14 k) m ((p : Int), c) = some c' ∧ Pad v c'
  | 0, c, m, hc, hm, _ => by
    obtain ⟨m, rfl⟩ : ∃ j, m = j + 1 := ⟨m - 1, by omega⟩
    exact ⟨c, loopS_last (by simp only [law4_LebBack.b14]; rw [if_neg (by omega)]), hc⟩
  | p + 1, c, m, hc, hm, hp => by
    obtain ⟨m, rfl⟩ : ∃ j, m = j + 1 := ⟨m - 1, by omega⟩
    by_cases hl : (c.length : Int) < 10
    · obtain ⟨xs, y, rfl, h1, h2, h3, h4, h5⟩ := hc
      have hlen : (xs ++ [y]).length = xs.length + 1 := by simp
      have e1 : isub .i64 (((xs ++ [y]).length : Nat) : Int) 1 = (xs.length : Int) := by rw [hlen, isub64 (by omega) (by omega)]; omega
      have hg : (xs ++ [y])[xs.length]? = some y := by simp
      have hset : (xs ++ [y]).set xs.length (ior .u8 y 128) = xs ++ [y + 128] := by rw [set_at, ior128 h2 h3]
      have hlen2 : (xs ++ [y + 128]).length = xs.length + 1 := by simp
      have step : law4_LebBack.b14 k (((p + 1 : Nat) : Int), xs ++ [y]) = some (.inl ((p : Int), (xs ++ [y + 128]) ++ [0])) := by
        simp only [law4_LebBack.b14]
        rw [if_pos (by omega), if_pos (by omega), e1, if_pos ⟨by omega, by omega⟩]
        simp only [Int.toNat_natCast, hg, Option.bind_some]
        rw [if_pos ⟨by omega, by omega⟩, hset, hlen2, if_pos (room_small (by omega) (by omega)), isub64 (by omega) (by omega)]
        congr 3
        omega
      rw [loopS_next step]
      refine pad_loop k p _ m ⟨xs ++ [y + 128], 0, rfl, ?_, by omega, by omega, ?_, ?_⟩ (by omega) (by omega)
      · intro x hx
        rcases List.mem_append.1 hx with hx | hx
        · exact h1 x hx
        · simp at hx; omega
      · rw [hlen2]; rw [hlen] at hl; omega
      · rw [valL_snoc, valL_snoc, ← h5, valL_snoc]
        simp only [Int.zero_emod, Int.zero_mul, Int.add_zero]
        congr 2
        omega
    · exact ⟨c, loopS_last (by simp only [law4_LebBack.b14]; rw [if_pos (by omega), if_neg hl]), hc⟩
theorem pad_read {v : Int} {c : List Int} (h : Pad v c) (hv : v < 18446744073709551616) : By c ∧ c.length ≤ 10 ∧ ∃ e, readUV c 0 64 = (v, e, true) := by
  obtain ⟨xs, y, rfl, h1, h2, h3, h4, h5⟩ := h
  refine ⟨fun x hx => ?_, by simp; omega, ?_⟩
  · rcases List.mem_append.1 hx with hx | hx
    · have := h1 x hx; exact ⟨by omega, by omega⟩
    · simp at hx; subst hx; exact ⟨h2, by omega⟩
  · have := readU_back (b := []) (n := v) [] (fun x hx => (h1 x hx).1) h2 h3 h4 h5 hv
    exact ⟨_, this⟩
theorem LebBack {k : Nat} (hk : 400 ≤ k) {n m pad : Int} {b0 : List Int} (hn : inR .u64 n) (hm : inR .i64 m) (_ : b0.length * 1 ≤ bigN) (hb0 : ∀ x ∈ b0, inR .u8 x) (_ : inR .i64 pad) : law4_LebBack.f k n m b0 pad = some true := by
  obtain ⟨k, rfl⟩ : ∃ j, k = j + 1 := ⟨k - 1, by omega⟩
  have cut : ∃ b : List Int, (if (b0.length : Int) > 20 then (if 0 ≤ (20 : Int) ∧ 20 ≤ (b0.length : Int) then (some (.inl (List.take 20 b0))) else none) else (some (.inl b0)) : Option (List Int ⊕ Bool)) = some (.inl b) ∧ b.length ≤ 20 ∧ By b := by
    by_cases h : (b0.length : Int) > 20
    · exact ⟨_, by rw [if_pos h, if_pos ⟨by omega, by omega⟩], by rw [List.length_take]; omega, By.take hb0 20⟩
    · exact ⟨_, by rw [if_neg h], by omega, hb0⟩
  obtain ⟨b, hcut, zb, hb⟩ := cut
  obtain ⟨h0, h1⟩ := hn
  obtain ⟨h2, h3⟩ := hm
  obtain ⟨u1, u2⟩ := encU_by h0 (by omega : n < 18446744073709551616)
  obtain ⟨s1, s2⟩ := encS_by h2 h3
  obtain ⟨xs, y, eu, ux, uv, uy0, uy1⟩ := encU_val h0 (by omega : n < 18446744073709551616)
  obtain ⟨ws, z, es, sx, sz0, sz1, sv⟩ := encS_val h2 h3
  have ulen : xs.length < 10 := by rw [eu] at u2; simp at u2; omega
  have slen : ws.length < 10 := by rw [es] at s2; simp at s2; omega
  simp only [law4_LebBack.f]
  refine segB_to hcut ?_
  rw [if_pos (room_small (by omega) (by omega)), u_ok (by omega) h0 (by omega)]
  simp only [Option.bind_some]
  rw [if_pos (room_small (by omega) (by omega)), readU_ok (by omega) (hb.app u1) (by simp; omega)]
  have ru := readU_back (b := b) [] (fun x hx => (ux x hx).1) uy0 uy1 ulen uv (by omega)
  rw [← eu] at ru
  rw [ru]
  simp only [Option.bind_some]
  rw [if_pos (room_small (by omega) (by omega)), s_ok (by omega) h2 h3]
  simp only [Option.bind_some]
  rw [if_pos (room_small (by omega) (by omega)), readS_ok (by omega) (hb.app s1) (by simp; omega)]
  have rs := readS_back (b := b) [] (fun x hx => (sx x hx).1) sz0 sz1 slen sv h2 h3
  rw [← es] at rs
  rw [rs]
  simp only [Option.bind_some, Bool.not_true, Bool.false_eq_true, if_false, if_true]
  have lu : (encU n).length = xs.length + 1 := by rw [eu]; simp
  have ls : (encS m).length = ws.length + 1 := by rw [es]; simp
  have l1 : (b ++ encU n).length = b.length + (xs.length + 1) := by simp [lu]
  have l2 : (b ++ encS m).length = b.length + (ws.length + 1) := by simp [ls]
  rw [l1, l2, if_pos rfl, if_pos rfl]
  have e1 : isub .i64 ((b.length + (xs.length + 1) : Nat) : Int) 1 = ((b.length + xs.length : Nat) : Int) := by rw [isub64 (by omega) (by omega)]; omega
  rw [e1]
  simp only [Int.toNat_natCast]
  rw [if_pos ⟨by omega, by omega, by omega⟩, List.drop_zero, Nat.sub_zero]
  have ht : List.take (b.length + xs.length) (b ++ encU n) = b ++ xs := by
    rw [eu, ← List.append_assoc, List.take_left' (by simp)]
  rw [ht, readU_ok (by omega) (hb.app (fun x hx => by have := ux x hx; exact ⟨by omega, by omega⟩)) (by simp; omega)]
  have rn : readUV (b ++ xs) (b.length : Int) 64 = (0, 0, false) := by
    unfold readUV rowOf
    rw [if_neg (by omega), Int.toNat_natCast, List.drop_left, rowL_none xs _ (fun x hx => (ux x hx).1)]
  rw [rn]
  simp only [Option.bind_some]
  have e32 : ishr .u64 n 32 = n / 4294967296 := ishr_ok (k := .u64) (j := 32) (by decide)
  rw [e32, u_ok (by omega) (by omega) (by omega)]
  simp only [Option.bind_some]
  obtain ⟨xs2, y2, eu2, ux2, uv2, uy20, uy21⟩ := encU_val (n := n / 4294967296) (by omega) (by omega)
  have ulen2 : xs2.length < 10 := by
    have := (encU_by (n := n / 4294967296) (by omega) (by omega)).2
    rw [eu2] at this; simp at this; omega
  rw [if_neg (by rw [eu2]; simp; omega)]
  obtain ⟨r71, e71, p0, p1, _⟩ := within_ok (k := k) (n := pad) (lo := 0) (hi := 5) (by omega) (by omega) (by omega) (by omega)
  rw [e71]
  simp only [Option.bind_some]
  obtain ⟨q, rfl⟩ : ∃ q : Nat, r71 = q := ⟨r71.toNat, by omega⟩
  obtain ⟨c', hc1, hc2⟩ := pad_loop k (v := n / 4294967296) q (encU (n / 4294967296)) k ⟨xs2, y2, eu2, ux2, uy20, uy21, ulen2, uv2⟩ (by omega) (by omega)
  rw [hc1]
  simp only [Option.bind_some]
  obtain ⟨c1, c2, e, c3⟩ := pad_read hc2 (by omega)
  rw [readU_ok (by omega) c1 (by omega), c3]
  simp only [Option.bind_some, Bool.not_false, if_true]
  rw [known_ok (by omega)]
  rfl
end Go.R1

/- Text: TextJoins. -/
import Derived.Test.YtfjpaakonepafaaDoorGFresh
set_option linter.all false
namespace Go.R3D
open Go.Proofs Go.Ev
set_option maxRecDepth 100000

theorem foldV_app : ∀ (a b : List Int) (v : Int), foldV v (a ++ b) = (foldV v a).bind fun u => foldV u b
  | [], b, v => rfl
  | c :: a, b, v => by
    simp only [List.cons_append, foldV]
    split
    · exact foldV_app a b _
    · rfl
theorem foldV_mem : ∀ (l : List Int) (v u : Int), foldV v l = some u → ∀ c ∈ l, c / 64 = 2
  | [], _, _, _, c, hc => by simp at hc
  | x :: l, v, u, h, c, hc => by
    simp only [foldV] at h
    split at h
    · rename_i hx
      rcases List.mem_cons.1 hc with rfl | hc
      · exact hx
      · exact foldV_mem l _ u h c hc
    · cases h
theorem kindV_not {b : Int} {r : Nat × Int × Int} (h : kindV b = some r) : ¬ b / 64 = 2 := by
  unfold kindV at h
  split at h
  · omega
  · split at h
    · cases h
    · omega
theorem kindV_none {b : Int} (h : b / 64 = 2) : kindV b = none := by
  unfold kindV
  rw [if_neg (by omega), if_pos (by omega)]
/-- A sign at the beginning, looked at. -/
theorem sg_parts {b : Int} {r : List Int} (h : sgV (b :: r) ≠ 0) : ∃ m least v u, kindV b = some (m, least, v) ∧ m ≤ r.length ∧ foldV v (r.take m) = some u ∧ sgV (b :: r) = m + 1 ∧ finV m least (some u) = m + 1 := by
  simp only [sgV] at h ⊢
  split at h
  · exact absurd rfl h
  · rename_i m least v hk
    split at h
    · exact absurd rfl h
    · rename_i hl
      cases hf : foldV v (r.take m) with
      | none => rw [hf] at h; exact absurd rfl h
      | some u =>
        rw [hf] at h
        have : finV m least (some u) = m + 1 := (finV_or m least (some u)).resolve_left h
        refine ⟨m, least, v, u, hk, by omega, hf, ?_, this⟩
        rw [if_neg hl, this]
theorem sg_pre {l : List Int} (h : sgV l ≠ 0) (y : List Int) : sgV (l.take (sgV l) ++ y) = sgV l := by
  cases l with
  | nil => exact absurd rfl h
  | cons b r =>
    obtain ⟨m, least, v, u, h1, h2, h3, h4, h5⟩ := sg_parts h
    rw [h4, List.take_succ_cons, List.cons_append]
    simp only [sgV]
    rw [h1]
    simp only
    have hl : (r.take m).length = m := by rw [List.length_take]; omega
    have ht : (r.take m ++ y).take m = r.take m := by rw [List.take_append_of_le_length (by omega), List.take_take, Nat.min_self]
    rw [if_neg (by rw [List.length_append]; omega), ht, h3, h5]
theorem sg_cont {c : Int} {y : List Int} (h : c / 64 = 2) : sgV (c :: y) = 0 := by
  simp only [sgV]
  rw [kindV_none h]
theorem cnt_some {l : List Int} {n : Nat} (h : cnt l = some n) (hl : l ≠ []) : sgV l ≠ 0 := by
  intro h0
  rw [cnt_bad hl h0] at h
  cases h
theorem cnt_app : ∀ (f : Nat) (x y : List Int) (n : Nat), x.length < f → cnt x = some n → cnt (x ++ y) = (cnt y).map (n + ·)
  | 0, _, _, _, h, _ => by omega
  | f + 1, x, y, n, hf, h => by
    by_cases hx : x = []
    · subst hx
      cases h
      simp
    · have hs := cnt_some h hx
      have hle := sgV_le x
      have hxy : x ++ y = x.take (sgV x) ++ (x.drop (sgV x) ++ y) := by rw [← List.append_assoc, List.take_append_drop]
      have h1 := sg_pre hs (x.drop (sgV x) ++ y)
      rw [← hxy] at h1
      rw [cnt_next hs] at h
      have hlt : (x.take (sgV x)).length = sgV x := by rw [List.length_take]; omega
      have hd : (x ++ y).drop (sgV x) = x.drop (sgV x) ++ y := by
        rw [List.drop_append_of_le_length hle]
      rw [cnt_next (by rw [h1]; exact hs), h1, hd]
      cases hc : cnt (x.drop (sgV x)) with
      | none => rw [hc] at h; cases h
      | some p =>
        rw [hc] at h
        simp only [Option.map_some, Option.some.injEq] at h
        rw [cnt_app f (x.drop (sgV x)) y p (by rw [List.length_drop]; omega) hc]
        cases cnt y with
        | none => rfl
        | some q => simp only [Option.map_some]; congr 1; omega
theorem put_none : ∀ (f : Nat) (x : List Int) (n k : Nat) (c : Int), x.length < f → cnt x = some n → 128 ≤ c → k ≤ x.length → cnt (x.take k ++ c :: x.drop k) = none
  | 0, _, _, _, _, h, _, _, _ => by omega
  | f + 1, x, n, 0, c, hf, h, hc, hk => by
    rw [List.take_zero, List.nil_append, List.drop_zero]
    refine cnt_bad (by simp) ?_
    by_cases c1 : c / 64 = 2
    · exact sg_cont c1
    · simp only [sgV]
      cases hkc : kindV c with
      | none => rfl
      | some r =>
        obtain ⟨m, least, v⟩ := r
        simp only
        by_cases hl : x.length < m
        · rw [if_pos hl]
        · rw [if_neg hl]
          have hm : 1 ≤ m := by
            unfold kindV at hkc
            rw [if_neg (by omega)] at hkc
            split at hkc
            · cases hkc
            · split at hkc
              · cases hkc; omega
              · split at hkc
                · cases hkc; omega
                · split at hkc
                  · cases hkc; omega
                  · cases hkc
          cases x with
          | nil => simp only [List.length_nil] at hl; omega
          | cons b r =>
            obtain ⟨m2, l2, v2, u2, h1, _⟩ := sg_parts (cnt_some h (by simp))
            obtain ⟨p, rfl⟩ : ∃ p, m = p + 1 := ⟨m - 1, by omega⟩
            rw [List.take_succ_cons]
            simp only [foldV]
            rw [if_neg (kindV_not h1)]
            rfl
  | f + 1, x, n, k + 1, c, hf, h, hc, hk => by
    have hx : x ≠ [] := by rintro rfl; simp at hk
    have hs := cnt_some h hx
    have hle := sgV_le x
    by_cases hks : sgV x ≤ k + 1
    · -- behind the first sign
      have hz : x.take (k + 1) ++ c :: x.drop (k + 1) = x.take (sgV x) ++ ((x.drop (sgV x)).take (k + 1 - sgV x) ++ c :: (x.drop (sgV x)).drop (k + 1 - sgV x)) := by
        rw [← List.append_assoc, List.drop_drop, show sgV x + (k + 1 - sgV x) = k + 1 from by omega]
        congr 1
        have : x.take (k + 1) = x.take (sgV x) ++ (x.drop (sgV x)).take (k + 1 - sgV x) := by
          rw [← List.take_add, show sgV x + (k + 1 - sgV x) = k + 1 from by omega]
        exact this
      rw [cnt_next hs] at h
      have h1 := sg_pre hs ((x.drop (sgV x)).take (k + 1 - sgV x) ++ c :: (x.drop (sgV x)).drop (k + 1 - sgV x))
      rw [hz, cnt_next (by rw [h1]; exact hs), h1]
      have hlt : (x.take (sgV x)).length = sgV x := by rw [List.length_take]; omega
      rw [List.drop_left' hlt]
      cases hcn : cnt (x.drop (sgV x)) with
      | none => rw [hcn] at h; cases h
      | some p =>
        have hpos : 0 < sgV x := Nat.pos_of_ne_zero hs
        rw [put_none f (x.drop (sgV x)) p (k + 1 - sgV x) c (by rw [List.length_drop]; omega) hcn hc (by rw [List.length_drop]; omega)]
        rfl
    · cases x with
      | nil => exact absurd rfl hx
      | cons b r =>
        obtain ⟨m, least, v, u, h1, h2, h3, h4, h5⟩ := sg_parts hs
        have hkm : k < m := by omega
        rw [List.take_succ_cons, List.drop_succ_cons, List.cons_append]
        have hlk : (r.take k).length = k := by rw [List.length_take]; omega
        have hlen : (r.take k ++ c :: r.drop k).length = r.length + 1 := by
          simp only [List.length_append, List.length_cons, List.length_drop, hlk]; omega
        have ht : (r.take k ++ c :: r.drop k).take m = r.take k ++ c :: (r.drop k).take (m - k - 1) := by
          rw [List.take_append, hlk, List.take_of_length_le (by omega)]
          obtain ⟨p, hp⟩ : ∃ p, m - k = p + 1 := ⟨m - k - 1, by omega⟩
          rw [hp, List.take_succ_cons]
          rfl
        have hsg : sgV (b :: (r.take k ++ c :: r.drop k)) = finV m least (foldV v (r.take k ++ c :: (r.drop k).take (m - k - 1))) := by
          simp only [sgV]
          rw [h1]
          simp only
          rw [if_neg (by omega), ht]
        rcases finV_or m least (foldV v (r.take k ++ c :: (r.drop k).take (m - k - 1))) with q | q
        · exact cnt_bad (by simp) (hsg.trans q)
        · rw [q] at hsg
          rw [cnt_next (by omega), hsg, List.drop_succ_cons]
          have hd : (r.take k ++ c :: r.drop k).drop m = r.drop (m - 1) := by
            rw [List.drop_append, hlk, List.drop_eq_nil_of_le (by omega), List.nil_append]
            obtain ⟨p, hp⟩ : ∃ p, m - k = p + 1 := ⟨m - k - 1, by omega⟩
            rw [hp, List.drop_succ_cons, List.drop_drop]
            congr 1
            omega
          have hx1 : m - 1 < r.length := by omega
          have hdc : r.drop (m - 1) = r[m - 1] :: r.drop (m - 1 + 1) := List.drop_eq_getElem_cons hx1
          have hmem : r[m - 1] ∈ r.take m := by
            refine List.mem_iff_getElem.2 ⟨m - 1, by rw [List.length_take]; omega, ?_⟩
            rw [List.getElem_take]
          rw [hd, hdc, cnt_bad (List.cons_ne_nil _ _) (sg_cont (foldV_mem _ _ _ h3 _ hmem))]
          rfl
/-! the law -/
theorem or128_all : (List.range 256).all (fun n => decide (128 ≤ ior .u8 ((n : Nat) : Int) 128 ∧ ior .u8 ((n : Nat) : Int) 128 ≤ 255)) = true := by kernel_rfl
theorem or128_by {e : Int} (h : inR .u8 e) : 128 ≤ ior .u8 e 128 ∧ ior .u8 e 128 ≤ 255 := by
  have h2 := fin256 or128_all h.1 h.2
  have ee : ((e.toNat : Nat) : Int) = e := by have := h.1; omega
  rw [ee] at h2
  exact of_decide_eq_true h2
theorem joins_ok (j : Nat) (hj : 200000 ≤ j) {a b : ByteArray} (ha : a.size ≤ 140737488355328) (hb : b.size ≤ 140737488355328) (at_ : Int) {more : Int} (hm : inR .u8 more) : law5_TextJoins.f (j + 50) a b at_ more = some true := by
  simp only [law5_TextJoins.f]
  rw [if_pos ha, if_pos hb]
  have cut : ∀ s : ByteArray, ∃ n : Nat, (if (((strL s)).length : Int) > 40 then (if (0 : Int) ≤ 40 ∧ (0 : Nat) ≤ 40 ∧ (40 : Nat) ≤ ((strL s)).length then (some (.inl (40 - 0))) else none) else (some (.inl (((strL s)).length))) : Option (Nat ⊕ Bool)) = some (.inl n) ∧ n ≤ 40 ∧ n ≤ (strL s).length := by
    intro s
    by_cases h : (((strL s)).length : Int) > 40
    · exact ⟨40, by rw [if_pos h, if_pos ⟨by decide, by decide, by omega⟩], by omega, by omega⟩
    · exact ⟨(strL s).length, by rw [if_neg h], by omega, by omega⟩
  obtain ⟨nx, e1, x1, x2⟩ := cut a
  obtain ⟨ny, e2, y1, y2⟩ := cut b
  refine segB_to e1 ?_
  refine segB_to e2 ?_
  simp only [List.drop_zero, Nat.sub_zero, Nat.zero_add]
  have hA := strL_by a
  have hX := hA.take nx
  have hY := (strL_by b).take ny
  have lX : ((strL a).take nx).length = nx := by rw [List.length_take]; omega
  have lY : ((strL b).take ny).length = ny := by rw [List.length_take]; omega
  have pre : ∀ k, k ≤ nx → (strL a).take k = ((strL a).take nx).take k := fun k hk => by rw [List.take_take, Nat.min_eq_left hk]
  have suf : ∀ k, k ≤ nx → ((strL a).drop k).take (nx - k) = ((strL a).take nx).drop k := fun k hk => by rw [List.drop_take]
  refine bindO (count_ok (j + 48) hX (by omega) (by omega)) ?_
  refine bindO (count_ok (j + 48) hY (by omega) (by omega)) ?_
  rw [lX, lY, if_pos (room_small (by omega) (by omega)), if_pos (room_small (by omega) (by omega))]
  have hkn := known_ok (j + 9)
  refine segB_to (o := ()) ?_ ?_
  · refine bindO (right_ok (j + 47) hX (by omega) (by omega)) ?_
    rw [ansV_dec, if_neg (by simp)]
    refine bindO (right_ok (j + 47) hY (by omega) (by omega)) ?_
    rw [ansV_dec, if_neg (by simp)]
    cases hx : cnt ((strL a).take nx) with
    | none => rw [if_neg (by simp [ansV])]
    | some n =>
      rw [if_pos (by simp only [ansV]; omega)]
      cases hy : cnt ((strL b).take ny) with
      | none => rw [if_neg (by simp [ansV])]
      | some m =>
        rw [if_pos (by simp only [ansV]; omega)]
        have hc := count_ok (j + 48) (hX.app hY) (by rw [List.length_append]; omega) (by omega)
        rw [cnt_app _ _ _ _ (Nat.lt_succ_self _) hx, hy] at hc
        refine bindO hc ?_
        have lim : ∀ (f : Nat) (l : List Int) (n : Nat), l.length < f → cnt l = some n → n ≤ l.length := by
          intro f
          induction f with
          | zero => intro l n h; omega
          | succ f ih =>
            intro l n hf h
            by_cases hl : l = []
            · subst hl; cases h; simp
            · have hs := cnt_some h hl
              rw [cnt_next hs] at h
              cases hc : cnt (l.drop (sgV l)) with
              | none => rw [hc] at h; cases h
              | some p =>
                rw [hc] at h
                simp only [Option.map_some, Option.some.injEq] at h
                have hle := sgV_le l
                have := ih (l.drop (sgV l)) p (by rw [List.length_drop]; omega) hc
                rw [List.length_drop] at this
                omega
        have l1 := lim _ _ _ (Nat.lt_succ_self _) hx
        have l2 := lim _ _ _ (Nat.lt_succ_self _) hy
        have e3 : ansV (Option.map (n + ·) (some m)) = iadd .i64 (ansV (some n)) (ansV (some m)) := by
          simp only [ansV, Option.map_some]
          rw [iadd64 (by omega) (by omega)]
          omega
        exact if_pos e3
  · cases hx : cnt ((strL a).take nx) with
    | none =>
      rw [if_pos (by simp [ansV])]
      exact bindO hkn rfl
    | some n =>
      rw [if_neg (by simp only [ansV]; omega)]
      obtain ⟨r, hr, r0, r1⟩ := fwithin_ok (k := j + 49) (by omega) (n := at_) (lo := 0) (hi := (nx : Int)) (by omega) (by decide) (by omega)
      obtain ⟨k, rfl⟩ : ∃ k : Nat, r = (k : Int) := ⟨r.toNat, by omega⟩
      refine bindO hr ?_
      simp only [Int.toNat_natCast]
      have ho := or128_by hm
      have hk : k ≤ nx := by omega
      have hz := put_none _ ((strL a).take nx) n k (ior .u8 more 128) (Nat.lt_succ_self _) hx ho.1 (by omega)
      have lk : ((strL a).take k).length = k := by rw [List.length_take]; omega
      have ls : (((strL a).take nx).drop k).length = nx - k := by rw [List.length_drop]; omega
      rw [if_pos ⟨by omega, by omega, by omega⟩, if_pos ⟨by omega, by omega, by omega⟩, suf k hk, if_pos (room_small (by omega) (by omega)), if_pos (room_small (by omega) (by omega)),
        if_pos (room_small (by simp only [List.length_append, List.length_cons, List.length_nil]; omega) (by simp only [List.length_append, List.length_cons, List.length_nil]; omega))]
      rw [pre k hk]
      have hzz : (((strL a).take nx).take k ++ [ior .u8 more 128]) ++ ((strL a).take nx).drop k = ((strL a).take nx).take k ++ ior .u8 more 128 :: ((strL a).take nx).drop k := by simp
      rw [hzz]
      have hZ : By (((strL a).take nx).take k ++ ior .u8 more 128 :: ((strL a).take nx).drop k) := by
        refine (hX.take k).app ?_
        intro y hy
        rcases List.mem_cons.1 hy with rfl | hy
        · exact ⟨by omega, ho.2⟩
        · exact hX.drop k y hy
      have lZ : (((strL a).take nx).take k ++ ior .u8 more 128 :: ((strL a).take nx).drop k).length ≤ 100 := by
        simp only [List.length_append, List.length_cons, List.length_take, List.length_drop]; omega
      have hrz := right_ok (j + 47) hZ (by omega) (by omega)
      have hcz := count_ok (j + 48) hZ (by omega) (by omega)
      rw [hz] at hrz hcz
      refine bindO hrz ?_
      rw [if_pos (by decide)]
      refine bindO hcz ?_
      rw [if_pos (by simp [ansV])]
      exact bindO hkn rfl
theorem TextJoins {a b : ByteArray} {at_ more : Int} (ha : a.size ≤ bigN) (hb : b.size ≤ bigN) (_ : inR .i64 at_) (hm : inR .u8 more) : ∃ k, law5_TextJoins.f k a b at_ more = some true :=
  ⟨_, joins_ok 200000 (by omega) (by simp only [bigN] at ha; omega) (by simp only [bigN] at hb; omega) at_ hm⟩
end Go.R3D

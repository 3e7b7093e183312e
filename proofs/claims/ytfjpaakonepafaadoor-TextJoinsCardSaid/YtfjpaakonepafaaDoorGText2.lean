/- Text: counts; the document's own. -/
import Derived.Test.YtfjpaakonepafaaDoorGText
set_option linter.all false
namespace Go.R3D
open Go.Proofs Go.Ev
set_option maxRecDepth 100000

def cntV : Nat → List Int → Option Nat
  | 0, _ => none
  | _ + 1, [] => some 0
  | f + 1, b :: r => if sgV (b :: r) = 0 then none else (cntV f ((b :: r).drop (sgV (b :: r)))).map (· + 1)
theorem cntV_fuel : ∀ (f g : Nat) (l : List Int), l.length < f → l.length < g → cntV f l = cntV g l
  | 0, _, _, h, _ => by omega
  | _, 0, _, _, h => by omega
  | f + 1, g + 1, [], _, _ => rfl
  | f + 1, g + 1, b :: r, h1, h2 => by
    simp only [cntV]
    by_cases c : sgV (b :: r) = 0
    · rw [if_pos c, if_pos c]
    · rw [if_neg c, if_neg c, cntV_fuel f g _ (by simp only [List.length_drop, List.length_cons] at *; omega) (by simp only [List.length_drop, List.length_cons] at *; omega)]
/-- How many signs. -/
def cnt (l : List Int) : Option Nat := cntV (l.length + 1) l
theorem cnt_nil : cnt [] = some 0 := rfl
theorem cnt_bad {l : List Int} (hl : l ≠ []) (h : sgV l = 0) : cnt l = none := by
  cases l with
  | nil => exact absurd rfl hl
  | cons b r => simp only [cnt, cntV]; rw [if_pos h]
theorem cnt_next {l : List Int} (h : sgV l ≠ 0) : cnt l = (cnt (l.drop (sgV l))).map (· + 1) := by
  cases l with
  | nil => exact absurd rfl h
  | cons b r =>
    simp only [cnt, cntV]
    rw [if_neg h, cntV_fuel _ (((b :: r).drop (sgV (b :: r))).length + 1) _ (by simp only [List.length_drop, List.length_cons]; omega) (by omega)]
theorem finV_le (m : Nat) (least : Int) (o : Option Int) : finV m least o ≤ m + 1 := by
  cases o with
  | none => simp [finV]
  | some v => simp only [finV]; split <;> (try split) <;> (try split) <;> omega
theorem finV_or (m : Nat) (least : Int) (o : Option Int) : finV m least o = 0 ∨ finV m least o = m + 1 := by
  cases o with
  | none => simp [finV]
  | some v => simp only [finV]; split <;> (try split) <;> (try split) <;> simp
theorem sgV_le (l : List Int) : sgV l ≤ l.length := by
  cases l with
  | nil => simp [sgV]
  | cons b r =>
    simp only [sgV]
    split
    · omega
    · rename_i m least v _
      split
      · omega
      · have := finV_le m least (foldV v (r.take m))
        simp only [List.length_cons]; omega
def ansV (o : Option Nat) : Int := match o with
  | some n => (n : Int)
  | none => -1
theorem ansV_dec (o : Option Nat) : decide (ansV o ≥ 0) = o.isSome := by
  cases o with
  | none => rfl
  | some m => exact decide_eq_true (show (m : Int) ≥ 0 by omega)
/-! text.Count -/
theorem count_loop (k : Nat) (hk : 30 ≤ k) : ∀ (f : Nat) (l : List Int) (n q : Nat), l.length < f → By l → l.length + n ≤ 1000000000 → f ≤ q →
    ∃ w : Int, loopS (text_Count.b2 k) q (l, (n : Int)) = some (match cntV f l with
      | some m => .inl ((n + m : Nat) : Int)
      | none => .inr w)
  | 0, _, _, _, h, _, _, _ => by omega
  | f + 1, l, n, 0, h, _, _, hq => by omega
  | f + 1, [], n, q + 1, _, _, _, _ => ⟨0, loopS_last (by simp only [text_Count.b2]; rw [if_neg (by simp)]; rfl)⟩
  | f + 1, b :: r, n, q + 1, h, hB, hn, hq => by
    have hs := sign_ok (k - 1) hB (by simp only [List.length_cons] at hn; omega) (by omega)
    rw [show k - 1 + 1 = k from by omega] at hs
    have hle := sgV_le (b :: r)
    simp only [cntV]
    by_cases c : sgV (b :: r) = 0
    · rw [if_pos c]
      refine ⟨(n : Int), loopS_last ?_⟩
      simp only [text_Count.b2]
      rw [if_pos (by simp only [List.length_cons]; omega)]
      refine bindO hs ?_
      rw [c]
      exact if_pos rfl
    · rw [if_neg c]
      obtain ⟨w, hw⟩ := count_loop k hk f ((b :: r).drop (sgV (b :: r))) (n + 1) q (by simp only [List.length_drop, List.length_cons] at *; omega) (hB.drop _) (by simp only [List.length_drop, List.length_cons] at *; omega) (by omega)
      refine ⟨w, ?_⟩
      rw [loopS_next (v' := ((b :: r).drop (sgV (b :: r)), ((n + 1 : Nat) : Int))) ?_, hw]
      · cases cntV f ((b :: r).drop (sgV (b :: r))) with
        | none => rfl
        | some m => simp only [Option.map_some]; congr 3; omega
      · simp only [text_Count.b2]
        rw [if_pos (by simp only [List.length_cons]; omega)]
        refine bindO hs ?_
        rw [if_neg (by omega), if_pos ⟨by omega, by omega⟩, Int.toNat_natCast, iadd64 (by omega) (by omega)]
        rfl
theorem count_ok (k : Nat) {l : List Int} (hB : By l) (hl : l.length ≤ 100000) (hk : 200000 ≤ k) : text_Count.f (k + 1) l = some (ansV (cnt l)) := by
  obtain ⟨w, hw⟩ := count_loop k (by omega) (l.length + 1) l 0 k (by omega) hB (by omega) (by omega)
  simp only [text_Count.f, cnt]
  cases h : cntV (l.length + 1) l with
  | none => rw [h] at hw; exact altB_r hw rfl
  | some m => rw [h] at hw; refine altB_l hw ?_; simp only [ansV, Nat.zero_add]
theorem right_ok (k : Nat) {l : List Int} (hB : By l) (hl : l.length ≤ 100000) (hk : 200000 ≤ k) : text_Right.f (k + 2) l = some (cnt l).isSome := by
  simp only [text_Right.f]
  refine bindO (count_ok k hB hl hk) ?_
  rw [ansV_dec]
/-! the document's own -/
theorem ref_loop (k : Nat) {b : List Int} {i m : Nat} (hb : b.length ≤ 1000000000) (hm : i + m < b.length) (m3 : m ≤ 3) (hB : By b) :
    ∀ (d j : Nat) (v : Int) (q : Nat), j + d = m → 0 ≤ v → v < 128 * 64 ^ j → d < q →
      ∃ w, loopS (ref5_Signs.b17 k b (i : Int) (m : Int)) q (v, ((j + 1 : Nat) : Int)) = some (match foldV v (((b.drop (i + 1)).take m).drop j) with
        | some w => .inl w
        | none => .inr w)
  | d, j, v, 0, hj, v0, v1, hq => by omega
  | 0, j, v, q + 1, hj, v0, v1, hq => by
    refine ⟨0, loopS_last ?_⟩
    have : ((b.drop (i + 1)).take m).drop j = [] := List.drop_eq_nil_of_le (by simp; omega)
    simp only [ref5_Signs.b17]
    rw [if_neg (by omega), this]
    rfl
  | d + 1, j, v, q + 1, hj, v0, v1, hq => by
    have hx : j < ((b.drop (i + 1)).take m).length := by simp; omega
    have hxb : i + (j + 1) < b.length := by omega
    have hg : ((b.drop (i + 1)).take m)[j] = b[i + (j + 1)] := by simp; congr 1; omega
    have hd : ((b.drop (i + 1)).take m).drop j = b[i + (j + 1)] :: ((b.drop (i + 1)).take m).drop (j + 1) := by rw [List.drop_eq_getElem_cons hx, hg]
    have hc := hB b[i + (j + 1)] (List.getElem_mem _)
    have hp : (64 : Int) ^ j ≤ 64 ^ 3 := by
      have : j = 0 ∨ j = 1 ∨ j = 2 := by omega
      rcases this with rfl | rfl | rfl <;> decide
    have hp3 : (64 : Int) ^ 3 = 262144 := by decide
    have hpp : (64 : Int) ^ (j + 1) = 64 ^ j * 64 := Int.pow_succ ..
    have ea : iadd .i64 (i : Int) ((j + 1 : Nat) : Int) = ((i + (j + 1) : Nat) : Int) := by rw [iadd64 (by omega) (by omega)]; omega
    have hsh : ishr .u8 b[i + (j + 1)] 6 = b[i + (j + 1)] / 64 := ishr_ok (k := .u8) (j := 6) (by decide)
    by_cases c : b[i + (j + 1)] / 64 = 2
    · obtain ⟨w, hw⟩ := ref_loop k hb hm m3 hB d (j + 1) (b[i + (j + 1)] % 64 + v * 64) q (by omega) (by omega) (by rw [hpp]; omega) (by omega)
      refine ⟨w, ?_⟩
      rw [loopS_next (v' := (b[i + (j + 1)] % 64 + v * 64, ((j + 1 + 1 : Nat) : Int))) ?_, hw, hd]
      · simp only [foldV]
        rw [if_pos c]
      · simp only [ref5_Signs.b17]
        rw [if_pos (by omega), ea]
        refine bindO (o := b[i + (j + 1)]) (by rw [at?_nat]; exact List.getElem?_eq_getElem hxb) ?_
        rw [hsh, if_pos c]
        refine bindO (o := b[i + (j + 1)]) (by rw [at?_nat]; exact List.getElem?_eq_getElem hxb) ?_
        rw [more_i64 v0 (by omega) hc.1 hc.2, iadd64 (by omega) (by omega)]
        rfl
    · refine ⟨v, loopS_last ?_⟩
      rw [hd]
      simp only [foldV]
      rw [if_neg c]
      simp only [ref5_Signs.b17]
      rw [if_pos (by omega), ea]
      refine bindO (o := b[i + (j + 1)]) (by rw [at?_nat]; exact List.getElem?_eq_getElem hxb) ?_
      rw [hsh, if_neg c]
def refK (b : Int) : Option (Nat × Int × Int) :=
  if b < 128 then some (0, 0, b) else if b < 194 then none else if b < 224 then some (1, 128, b % 32) else if b < 240 then some (2, 2048, b % 16) else if b < 245 then some (3, 65536, b % 8) else none
def sgR : List Int → Nat
  | [] => 0
  | b :: r => match refK b with
    | none => 0
    | some (m, least, v) => if r.length < m then 0 else finV m least (foldV v (r.take m))
theorem foldV_ge : ∀ (l : List Int) (v u : Int), foldV v l = some u → v * 64 ^ l.length ≤ u ∧ u < (v + 1) * 64 ^ l.length
  | [], v, u, h => by simp only [foldV, Option.some.injEq] at h; subst h; simp; omega
  | c :: r, v, u, h => by
    simp only [foldV] at h
    split at h
    · obtain ⟨h1, h2⟩ := foldV_ge r _ u h
      have hp : (0 : Int) < 64 ^ r.length := Int.pow_pos (by decide)
      have e : (64 : Int) ^ (r.length + 1) = 64 ^ r.length * 64 := Int.pow_succ ..
      simp only [List.length_cons, e]
      have c0 : 0 ≤ c % 64 := Int.emod_nonneg _ (by decide)
      have c1 : c % 64 < 64 := Int.emod_lt_of_pos _ (by decide)
      constructor
      · have : v * (64 ^ r.length * 64) = (v * 64) * 64 ^ r.length := by rw [Int.mul_comm (64 ^ r.length), ← Int.mul_assoc]
        rw [this]
        refine Int.le_trans (Int.mul_le_mul_of_nonneg_right (by omega) (Int.le_of_lt hp)) h1
      · have : (v + 1) * (64 ^ r.length * 64) = ((v + 1) * 64) * 64 ^ r.length := by rw [Int.mul_comm (64 ^ r.length), ← Int.mul_assoc]
        rw [this]
        refine Int.lt_of_lt_of_le h2 (Int.mul_le_mul_of_nonneg_right (by omega) (Int.le_of_lt hp))
    · cases h
theorem sgR_eq (l : List Int) (hB : By l) : sgR l = sgV l := by
  cases l with
  | nil => rfl
  | cons b r =>
    have hb := hB.head
    simp only [sgR, sgV, refK, kindV]
    by_cases c1 : b < 128
    · rw [if_pos c1, if_pos c1]
    rw [if_neg c1, if_neg c1]
    by_cases c2 : b < 192
    · rw [if_pos (by omega), if_pos c2]
    rw [if_neg c2]
    by_cases c3 : b < 194
    · rw [if_pos c3, if_pos (by omega)]
      dsimp only
      by_cases hl : r.length < 1
      · rw [if_pos hl]
      · rw [if_neg hl]
        have hlen : (r.take 1).length = 1 := by simp; omega
        cases hf : foldV (b % 32) (r.take 1) with
        | none => rfl
        | some u =>
          have := (foldV_ge _ _ _ hf).2
          rw [hlen] at this
          simp only [finV]
          rw [if_pos (by omega)]
    rw [if_neg c3]
    by_cases c4 : b < 224
    · rw [if_pos c4, if_pos c4]
    rw [if_neg c4, if_neg c4]
    by_cases c5 : b < 240
    · rw [if_pos c5, if_pos c5]
    rw [if_neg c5, if_neg c5]
    by_cases c6 : b < 245
    · rw [if_pos c6, if_pos (by omega)]
    rw [if_neg c6]
    by_cases c7 : b < 248
    · rw [if_pos c7]
      dsimp only
      by_cases hl : r.length < 3
      · rw [if_pos hl]
      · rw [if_neg hl]
        have hlen : (r.take 3).length = 3 := by simp; omega
        cases hf : foldV (b % 8) (r.take 3) with
        | none => rfl
        | some u =>
          have := (foldV_ge _ _ _ hf).1
          rw [hlen] at this
          have e3 : (64 : Int) ^ 3 = 262144 := by decide
          rw [e3] at this
          simp only [finV]
          rw [if_neg (by omega), if_neg (by omega), if_pos (by omega)]
    · rw [if_neg c7]
theorem i64and {e m : Int} {j : Nat} (hm : m = 2 ^ j - 1) (hj : j < 64) : iand .i64 e m = e % 2 ^ j := iand_mask hm hj
/-- One round of the document's own. -/
theorem ref_round (k : Nat) {b : List Int} {i n : Nat} (hk : 10 ≤ k) (hb : b.length ≤ 1000000000) (hn : n ≤ 1000000000) (hB : By b) (hi : i < b.length) :
    ref5_Signs.b3 k b ((n : Int), (i : Int)) = some (if sgV (b.drop i) = 0 then .inr (.inr (n : Int)) else .inl (((n + 1 : Nat) : Int), ((i + sgV (b.drop i) : Nat) : Int))) := by
  have hd : b.drop i = b[i] :: b.drop (i + 1) := List.drop_eq_getElem_cons hi
  have hc := hB b[i] (List.getElem_mem _)
  have ec : icv .i64 b[i] = b[i] := icv64 (by omega) (by omega)
  -- the rest, for a kind
  have rest : ∀ {m : Nat} {least v : Int} {G : Nat}, m ≤ 3 → 0 ≤ v → v < 128 → G = (if (b.drop (i + 1)).length < m then 0 else finV m least (foldV v ((b.drop (i + 1)).take m))) →
      (if (iadd .i64 (i : Int) (m : Int)) ≥ (b.length : Int) then (some (.inr (.inr (n : Int)))) else (altB (loopS (ref5_Signs.b17 k b (i : Int) (m : Int)) k (v, (1 : Int))) (fun v693 => (segB (if v693 < least then (some (.inr (.inr (.inr (n : Int))))) else (if v693 ≥ 55296 then (if v693 < 57344 then (some (.inr (.inr (.inr (n : Int))))) else (if v693 > 1114111 then (some (.inr (.inr (.inr (n : Int))))) else (some (.inl ())))) else (if v693 > 1114111 then (some (.inr (.inr (.inr (n : Int))))) else (some (.inl ()))))) (fun _ => (some (.inl ((iadd .i64 (n : Int) 1), (iadd .i64 (iadd .i64 (i : Int) (m : Int)) 1))))))) (fun v694 => (some (.inr (.inr (n : Int)))))) : Option ((Int × Int) ⊕ (Int ⊕ Int)))
      = some (if G = 0 then .inr (.inr (n : Int)) else .inl (((n + 1 : Nat) : Int), ((i + G : Nat) : Int))) := by
    intro m least v G m3 v0 v1 hG
    have ea : iadd .i64 (i : Int) (m : Int) = ((i + m : Nat) : Int) := by rw [iadd64 (by omega) (by omega)]; omega
    rw [ea]
    have hlen : (b.drop (i + 1)).length = b.length - (i + 1) := List.length_drop ..
    by_cases c : i + m ≥ b.length
    · rw [if_pos (by rw [hlen]; omega)] at hG
      rw [if_pos (by omega), if_pos hG]
    · have hlt : ¬ (b.drop (i + 1)).length < m := by omega
      rw [if_neg hlt] at hG
      rw [if_neg (by omega)]
      obtain ⟨w, hw⟩ := ref_loop k hb (i := i) (m := m) (by omega) m3 hB m 0 v k (by omega) v0 (by omega) (by omega)
      rw [List.drop_zero] at hw
      have e1 : iadd .i64 (n : Int) 1 = ((n + 1 : Nat) : Int) := by rw [iadd64 (by omega) (by omega)]; omega
      have e2 : iadd .i64 ((i + m : Nat) : Int) 1 = ((i + (m + 1) : Nat) : Int) := by rw [iadd64 (by omega) (by omega)]; omega
      rw [e1, e2]
      cases hf : foldV v ((b.drop (i + 1)).take m) with
      | none =>
        rw [hf] at hw hG
        have hG0 : G = 0 := hG
        rw [if_pos hG0]
        exact altB_r hw rfl
      | some u =>
        rw [hf] at hw hG
        simp only [finV] at hG
        refine altB_l hw ?_
        by_cases d1 : u < least
        · rw [if_pos d1] at hG
          rw [if_pos d1, if_pos hG]; rfl
        rw [if_neg d1] at hG
        rw [if_neg d1]
        by_cases d2 : u ≥ 55296
        · rw [if_pos d2]
          by_cases d3 : u < 57344
          · rw [if_pos (show 55296 ≤ u ∧ u ≤ 57343 from ⟨d2, by omega⟩)] at hG
            rw [if_pos d3, if_pos hG]; rfl
          · rw [if_neg (show ¬ (55296 ≤ u ∧ u ≤ 57343) from by omega)] at hG
            rw [if_neg d3]
            by_cases d4 : u > 1114111
            · rw [if_pos d4] at hG
              rw [if_pos d4, if_pos hG]; rfl
            · rw [if_neg d4] at hG
              rw [if_neg d4, if_neg (by omega), hG]; rfl
        · rw [if_neg (show ¬ (55296 ≤ u ∧ u ≤ 57343) from by omega)] at hG
          rw [if_neg d2]
          by_cases d4 : u > 1114111
          · rw [if_pos d4] at hG
            rw [if_pos d4, if_pos hG]; rfl
          · rw [if_neg d4] at hG
            rw [if_neg d4, if_neg (by omega), hG]; rfl
  rw [← sgR_eq _ (hB.drop i)]
  generalize hG : sgR (b.drop i) = G
  rw [hd] at hG
  simp only [sgR, refK] at hG
  simp only [ref5_Signs.b3]
  rw [if_pos (by omega)]
  refine bindO (o := b[i]) (by rw [at?_nat]; exact List.getElem?_eq_getElem hi) ?_
  rw [ec]
  by_cases c1 : b[i] < 128
  · rw [if_pos c1] at hG
    rw [if_pos c1]
    exact rest (m := 0) (least := 0) (v := b[i]) (by omega) hc.1 c1 hG.symm
  rw [if_neg c1] at hG
  rw [if_neg c1]
  by_cases c2 : b[i] < 194
  · rw [if_pos c2] at hG
    rw [if_neg (by omega)]
    simp only [segB, Bool.false_eq_true, if_false]
    rw [if_neg (by omega)]
    simp only [segB, Bool.false_eq_true, if_false]
    rw [if_neg (by omega), if_pos hG.symm]
  rw [if_neg c2] at hG
  rw [if_pos (by omega)]
  by_cases c3 : b[i] < 224
  · rw [if_pos c3] at hG
    have e := i64and (e := b[i]) (m := 31) (j := 5) (by decide) (by decide)
    simp only [segB, decide_eq_true c3, if_true]
    rw [e]
    exact rest (m := 1) (least := 128) (v := b[i] % 32) (by omega) (by omega) (by omega) hG.symm
  rw [if_neg c3] at hG
  simp only [segB, decide_eq_false c3, Bool.false_eq_true, if_false]
  rw [if_pos (by omega)]
  by_cases c4 : b[i] < 240
  · rw [if_pos c4] at hG
    have e := i64and (e := b[i]) (m := 15) (j := 4) (by decide) (by decide)
    simp only [segB, decide_eq_true c4, if_true]
    rw [e]
    exact rest (m := 2) (least := 2048) (v := b[i] % 16) (by omega) (by omega) (by omega) hG.symm
  rw [if_neg c4] at hG
  simp only [segB, decide_eq_false c4, Bool.false_eq_true, if_false]
  rw [if_pos (by omega)]
  by_cases c5 : b[i] < 245
  · rw [if_pos c5] at hG
    rw [if_pos c5]
    have e := i64and (e := b[i]) (m := 7) (j := 3) (by decide) (by decide)
    rw [e]
    exact rest (m := 3) (least := 65536) (v := b[i] % 8) (by omega) (by omega) (by omega) hG.symm
  · rw [if_neg c5] at hG
    rw [if_neg c5, if_pos hG.symm]
theorem ref_loops (k : Nat) {b : List Int} (hk : 10 ≤ k) (hb : b.length ≤ 1000000000) (hB : By b) : ∀ (f i n q : Nat), (b.drop i).length < f → i ≤ b.length → n ≤ i → f ≤ q →
    ∃ w : Int, loopS (ref5_Signs.b3 k b) q ((n : Int), (i : Int)) = some (match cntV f (b.drop i) with
      | some m => .inl ((n + m : Nat) : Int)
      | none => .inr w)
  | 0, _, _, _, h, _, _, _ => by omega
  | f + 1, i, n, 0, h, _, _, hq => by omega
  | f + 1, i, n, q + 1, h, hi, hn, hq => by
    by_cases c : i < b.length
    · have hr := ref_round k hk hb (n := n) (by omega) hB c
      have hd : b.drop i = b[i] :: b.drop (i + 1) := List.drop_eq_getElem_cons c
      have hcv : cntV (f + 1) (b.drop i) = if sgV (b.drop i) = 0 then none else (cntV f ((b.drop i).drop (sgV (b.drop i)))).map (· + 1) := by rw [hd]; rfl
      rw [hcv]
      have hle := sgV_le (b.drop i)
      by_cases c2 : sgV (b.drop i) = 0
      · rw [if_pos c2]
        rw [if_pos c2] at hr
        exact ⟨_, loopS_last hr⟩
      · rw [if_neg c2]
        rw [if_neg c2] at hr
        rw [List.length_drop] at h hle
        obtain ⟨w, hw⟩ := ref_loops k hk hb hB f (i + sgV (b.drop i)) (n + 1) q (by rw [List.length_drop]; omega) (by omega) (by omega) (by omega)
        refine ⟨w, ?_⟩
        rw [loopS_next hr, hw, List.drop_drop]
        cases cntV f (b.drop (i + sgV (b.drop i))) with
        | none => rfl
        | some m => simp only [Option.map_some]; congr 3; omega
    · have hd : b.drop i = [] := List.drop_eq_nil_of_le (by omega)
      refine ⟨0, loopS_last ?_⟩
      rw [hd]
      simp only [ref5_Signs.b3]
      rw [if_neg (by omega)]
      rfl
theorem signs_ok (k : Nat) {l : List Int} (hB : By l) (hl : l.length ≤ 100000) (hk : 200000 ≤ k) : ref5_Signs.f (k + 1) l = some (ansV (cnt l)) := by
  obtain ⟨w, hw⟩ := ref_loops k (by omega) (by omega) hB (l.length + 1) 0 0 k (by simp) (by omega) (by omega) (by omega)
  rw [List.drop_zero] at hw
  simp only [ref5_Signs.f, cnt]
  cases h : cntV (l.length + 1) l with
  | none => rw [h] at hw; exact altB_r hw rfl
  | some m => rw [h] at hw; refine altB_l hw ?_; simp only [ansV, Nat.zero_add]
theorem same_ok (k : Nat) {l : List Int} (hB : By l) (hl : l.length ≤ 100000) (hk : 200000 ≤ k) : law5_same.f (k + 3) l = some true := by
  simp only [law5_same.f]
  refine bindO (signs_ok (k + 1) hB hl (by omega)) ?_
  refine bindO (right_ok k hB hl hk) ?_
  have hc := count_ok (k + 1) hB hl (by omega)
  rw [ansV_dec, if_pos (by simp)]
  refine bindO hc ?_
  simp
theorem known_ok (j : Nat) : law5_known.f (j + 40) = some true := by kernel_rfl
end Go.R3D

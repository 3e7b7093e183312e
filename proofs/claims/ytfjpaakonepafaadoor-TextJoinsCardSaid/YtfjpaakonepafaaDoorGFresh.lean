/- Text: TextFresh. -/
import Derived.Test.YtfjpaakonepafaaDoorGTells
import Derived.Laws.Strings
set_option linter.all false
namespace Go.R3D
open Go.Proofs Go.Ev
set_option maxRecDepth 100000

theorem bytes_ext {a b : ByteArray} (h : a.data.toList = b.data.toList) : a = b := ByteArray.ext (Array.ext' h)
theorem strEq_iff (x y : ByteArray) : strEq x y = true ↔ x = y := by
  unfold strEq
  constructor
  · intro h
    have h2 : x.toList = y.toList := by simpa using h
    rw [ByteArray.toList_eq, ByteArray.toList_eq] at h2
    exact bytes_ext h2
  · rintro rfl; simp
def numL (i : Nat) : List UInt8 := if i < 10 then [UInt8.ofNat (48 + i)] else [UInt8.ofNat (48 + i / 10), UInt8.ofNat (48 + i % 10)]
def numB (i : Nat) : ByteArray := ⟨⟨numL i⟩⟩
theorem numB_size (i : Nat) : (numB i).size ≤ 2 := by
  show (numL i).length ≤ 2
  unfold numL; split <;> simp
theorem num_all (j : Nat) : (List.range 100).all (fun i => Nat.beq i 0 || ((match law5_number.f (j + 10) (i : Int) with
    | some r => r.data.toList == numL i
    | none => false) && (match strconv_Itoa.f (j + 10) (i : Int) with
    | some r => r.data.toList == numL i
    | none => false))) = true := by kernel_rfl
theorem num_both (j : Nat) {i : Nat} (h0 : 0 < i) (h1 : i < 100) : law5_number.f (j + 10) (i : Int) = some (numB i) ∧ strconv_Itoa.f (j + 10) (i : Int) = some (numB i) := by
  have h := num_all j
  rw [List.all_eq_true] at h
  have h := h i (List.mem_range.2 h1)
  rw [Bool.or_eq_true, Bool.and_eq_true] at h
  rcases h with h | ⟨h, h2⟩
  · have := Nat.eq_of_beq_eq_true h; omega
  · constructor
    · split at h
      · rename_i r hr
        rw [hr]
        have h' : r.data.toList = numL i := by simpa using h
        exact congrArg some (bytes_ext h')
      · cases h
    · split at h2
      · rename_i r hr
        rw [hr]
        have h' : r.data.toList = numL i := by simpa using h2
        exact congrArg some (bytes_ext h')
      · cases h2
/-- The names in their order. -/
def cand (w : ByteArray) (i : Nat) : ByteArray := if i = 0 then w else w ++ numB i
theorem num_apart : (List.range 40).all (fun i => (List.range 40).all fun j => Nat.beq i 0 || Nat.beq j 0 || Nat.beq i j || !(numL i == numL j)) = true := by kernel_rfl
theorem cand_list (w : ByteArray) {i : Nat} (h : i ≠ 0) : (cand w i).data.toList = w.data.toList ++ numL i := by
  unfold cand
  rw [if_neg h, ByteArray.data_append, Array.toList_append]
  rfl
theorem cand_inj (w : ByteArray) {i j : Nat} (hi : i < 40) (hj : j < 40) (h : cand w i = cand w j) : i = j := by
  have hn : ∀ i, numL i ≠ [] := fun i => by unfold numL; split <;> simp
  by_cases i0 : i = 0
  · by_cases j0 : j = 0
    · omega
    · have h2 := congrArg (fun x : ByteArray => x.data.toList.length) h
      simp only [cand_list w j0, i0, List.length_append] at h2
      have := hn j
      have h3 : (cand w 0).data.toList.length = w.data.toList.length := by simp [cand]
      rw [h3] at h2
      exact absurd (List.length_eq_zero_iff.1 (by omega)) this
  · by_cases j0 : j = 0
    · have h2 := congrArg (fun x : ByteArray => x.data.toList.length) h
      simp only [cand_list w i0, j0, List.length_append] at h2
      have := hn i
      have h3 : (cand w 0).data.toList.length = w.data.toList.length := by simp [cand]
      rw [h3] at h2
      exact absurd (List.length_eq_zero_iff.1 (by omega)) this
    · have h2 := congrArg (fun x : ByteArray => x.data.toList) h
      simp only [cand_list w i0, cand_list w j0] at h2
      have h3 := List.append_cancel_left h2
      have g := num_apart
      rw [List.all_eq_true] at g
      have g := g i (List.mem_range.2 hi)
      rw [List.all_eq_true] at g
      have g := g j (List.mem_range.2 hj)
      rw [h3] at g
      simp only [beq_self_eq_true, Bool.not_true, Bool.or_false, Bool.or_eq_true] at g
      rcases g with (g | g) | g
      · exact absurd (Nat.eq_of_beq_eq_true g) i0
      · exact absurd (Nat.eq_of_beq_eq_true g) j0
      · exact Nat.eq_of_beq_eq_true g
theorem first_one {p : Nat → Prop} : ∀ n, p n → ∃ m, m ≤ n ∧ p m ∧ ∀ j, j < m → ¬ p j := by
  intro n
  induction n using Nat.strongRecOn with
  | _ n ih =>
    intro hn
    by_cases h : ∃ j, j < n ∧ p j
    · obtain ⟨j, hj, hp⟩ := h
      obtain ⟨m, h1, h2, h3⟩ := ih j hj hp
      exact ⟨m, by omega, h2, h3⟩
    · exact ⟨n, Nat.le_refl _, hn, fun j hj hp => h ⟨j, hj, hp⟩⟩
theorem free_one (w : ByteArray) {l : List ByteArray} (hl : l.length ≤ 32) : ∃ i, i ≤ 32 ∧ cand w i ∉ l ∧ ∀ j, j < i → cand w j ∈ l := by
  have : ∃ i, i ≤ 32 ∧ cand w i ∉ l := by
    refine Classical.byContradiction fun hc => ?_
    have hall : ∀ i, i ≤ 32 → cand w i ∈ l := fun i hi => Classical.byContradiction fun h => hc ⟨i, hi, h⟩
    have hnd : ((List.range 33).map (cand w)).Nodup := by
      rw [List.nodup_iff_pairwise_ne, List.pairwise_map]
      refine List.Pairwise.imp_of_mem (R := fun a b => a ≠ b) ?_ (List.nodup_iff_pairwise_ne.1 List.nodup_range)
      intro a b ha hb hab h
      rw [List.mem_range] at ha hb
      exact hab (cand_inj w (by omega) (by omega) h)
    have hsub : ((List.range 33).map (cand w)) ⊆ l := by
      intro x hx
      obtain ⟨i, hi, rfl⟩ := List.mem_map.1 hx
      rw [List.mem_range] at hi
      exact hall i (by omega)
    have := hnd.length_le_of_subset hsub
    rw [List.length_map, List.length_range] at this
    omega
  obtain ⟨n, h1, h2⟩ := this
  obtain ⟨m, g1, g2, g3⟩ := first_one (p := fun i => cand w i ∉ l) n h2
  exact ⟨m, by omega, g2, fun j hj => Classical.byContradiction fun h => g3 j hj h⟩
/-! Contains -/
theorem index_loop (k : Nat) (l : List ByteArray) (v : ByteArray) (hl : l.length ≤ 1000000) : ∀ (d i q : Nat), i + d = l.length → d < q →
    loopS (slices_Index_string_string.b2 k l v) q (i : Int) = some (.inl ()) ∧ v ∉ l.drop i ∨ ∃ j : Nat, loopS (slices_Index_string_string.b2 k l v) q (i : Int) = some (.inr (j : Int)) ∧ v ∈ l.drop i
  | d, i, 0, hi, hq => by omega
  | 0, i, q + 1, hi, hq => by
    refine .inl ⟨loopS_last ?_, ?_⟩
    · simp only [slices_Index_string_string.b2]
      rw [if_neg (by omega)]
    · rw [List.drop_eq_nil_of_le (by omega)]; simp
  | d + 1, i, q + 1, hi, hq => by
    have hx : i < l.length := by omega
    have hd : l.drop i = l[i] :: l.drop (i + 1) := List.drop_eq_getElem_cons hx
    by_cases c : strEq v l[i] = true
    · refine .inr ⟨i, loopS_last ?_, ?_⟩
      · simp only [slices_Index_string_string.b2]
        rw [if_pos (by omega)]
        refine bindO (o := l[i]) (by rw [at?_nat]; exact List.getElem?_eq_getElem hx) ?_
        rw [if_pos c]
      · rw [hd, (strEq_iff _ _).1 c]; exact List.mem_cons_self ..
    · have hs : slices_Index_string_string.b2 k l v (i : Int) = some (.inl ((i + 1 : Nat) : Int)) := by
        simp only [slices_Index_string_string.b2]
        rw [if_pos (by omega)]
        refine bindO (o := l[i]) (by rw [at?_nat]; exact List.getElem?_eq_getElem hx) ?_
        rw [if_neg c, iadd64 (by omega) (by omega)]
        rfl
      have hne : v ≠ l[i] := fun h => c ((strEq_iff _ _).2 h)
      rw [loopS_next hs, hd]
      rcases index_loop k l v hl d (i + 1) q (by omega) (by omega) with ⟨h1, h2⟩ | ⟨j, h1, h2⟩
      · exact .inl ⟨h1, by rw [List.mem_cons]; exact fun h => h.elim hne h2⟩
      · exact .inr ⟨j, h1, List.mem_cons_of_mem _ h2⟩
theorem contains_ok (k : Nat) (l : List ByteArray) (v : ByteArray) (hl : l.length ≤ 1000) (hk : 2000 ≤ k) : (v ∈ l → slices_Contains_string_string.f (k + 2) l v = some true) ∧ (v ∉ l → slices_Contains_string_string.f (k + 2) l v = some false) := by
  have h := index_loop k l v (by omega) l.length 0 k (by omega) (by omega)
  rw [List.drop_zero] at h
  simp only [slices_Contains_string_string.f, slices_Index_string_string.f]
  rcases h with ⟨h1, h2⟩ | ⟨j, h1, h2⟩
  · refine ⟨fun h => absurd h h2, fun _ => ?_⟩
    refine bindO (altB_l h1 rfl) ?_
    rfl
  · refine ⟨fun _ => ?_, fun h => absurd h2 h⟩
    refine bindO (altB_r h1 rfl) ?_
    exact congrArg some (decide_eq_true (by omega))
theorem fresh_ok (k : Nat) (l : List ByteArray) (w : ByteArray) (hw : w.size ≤ 10) (hl : l.length ≤ 1000) (hk : 2000 ≤ k) {n : Nat} (hn : n ≤ 32) (h1 : cand w n ∉ l) (h2 : ∀ j, j < n → cand w j ∈ l) : text_Fresh.f (k + 20) l w = some (cand w n) := by
  simp only [text_Fresh.f]
  refine bindO (o := cand w n) ?_ rfl
  refine loopS_count (fun i : Nat => (cand w i, ((i + 1 : Nat) : Int))) n _ ?_ ?_ n 0 _ (by omega) (by omega)
  · simp only [text_Fresh.b3]
    refine bindO ((contains_ok (k + 17) l (cand w n) hl (by omega)).2 h1) ?_
    rw [if_neg (by decide)]
  · intro i hi
    simp only [text_Fresh.b3]
    refine bindO ((contains_ok (k + 17) l (cand w i) hl (by omega)).1 (h2 i hi)) ?_
    rw [if_pos rfl]
    refine bindO (num_both (k + 9) (i := i + 1) (by omega) (by omega)).2 ?_
    have := numB_size (i + 1)
    rw [if_pos (by omega), iadd64 (by omega) (by omega)]
    simp only [cand]
    rw [if_neg (by omega)]
    rfl
theorem fwithin_ok {k : Nat} (hk : 1 ≤ k) {n lo hi : Int} (h1 : lo ≤ hi) (h2 : -1000000000000000000 ≤ lo) (h3 : hi ≤ 1000000000000000000) : ∃ r, book_Within.f k n lo hi = some r ∧ lo ≤ r ∧ r ≤ hi := by
  obtain ⟨k, rfl⟩ : ∃ j, k = j + 1 := ⟨k - 1, by omega⟩
  simp only [book_Within.f]
  by_cases h : lo ≤ n ∧ n ≤ hi
  · rw [if_pos h.1, if_pos h.2]
    exact ⟨n, rfl, h.1, h.2⟩
  · have e : iadd .i64 (isub .i64 hi lo) 1 = hi - lo + 1 := by rw [isub64 (by omega) (by omega), iadd64 (by omega) (by omega)]
    have m0 : irem .i64 n (hi - lo + 1) < hi - lo + 1 := by
      unfold irem; exact Int.tmod_lt_of_pos _ (by omega)
    have m1 : -(hi - lo + 1) < irem .i64 n (hi - lo + 1) := by
      unfold irem; exact Int.lt_tmod_of_pos _ (by omega)
    have q : (if n ≥ lo then (if n ≤ hi then (some (.inr n)) else (some (.inl ()))) else (some (.inl ())) : Option (Unit ⊕ Int)) = some (.inl ()) := by
      by_cases h0 : n ≥ lo
      · rw [if_pos h0, if_neg (by omega)]
      · rw [if_neg h0]
    rw [q, e]
    simp only [segB]
    rw [if_pos (by omega)]
    generalize irem .i64 n (hi - lo + 1) = z at m0 m1
    by_cases hz : z < 0
    · rw [if_pos hz, iadd64 (a := z) (by omega) (by omega), isub64 (by omega) (by omega), iadd64 (a := z + hi - lo) (by omega) (by omega), iadd64 (by omega) (by omega)]
      exact ⟨_, rfl, by omega, by omega⟩
    · rw [if_neg hz, iadd64 (by omega) (by omega)]
      exact ⟨_, rfl, by omega, by omega⟩
/-! the law -/
theorem take_loop (k : Nat) {t : List ByteArray} (ht : t.length ≤ 1000000000000000000) (q : Nat) (hq : 100 ≤ q) : ∃ h : List ByteArray, h.length ≤ 20 ∧ loopS (law5_TextFresh.b5 k t) q ((0 : Int), ([] : List ByteArray)) = some h := by
  refine ⟨t.take (min t.length 20), by simp; omega, ?_⟩
  refine loopS_count (fun i : Nat => ((i : Int), t.take i)) (min t.length 20) _ ?_ ?_ (min t.length 20) 0 _ (by omega) (by omega)
  · simp only [law5_TextFresh.b5]
    by_cases c : ((min t.length 20 : Nat) : Int) < (t.length : Int)
    · rw [if_pos c, if_neg (by omega)]
    · rw [if_neg c]
  · intro i hi
    have hx : i < t.length := by omega
    simp only [law5_TextFresh.b5]
    rw [if_pos (by omega), if_pos (by omega)]
    refine bindO (o := t[i]) (by rw [at?_nat]; exact List.getElem?_eq_getElem hx) ?_
    rw [if_pos (room_small (by simp; omega) (by simp; omega)), iadd64 (by omega) (by omega), List.take_succ_eq_append_getElem hx]
    rfl
theorem more_loop (k : Nat) (n : Int) (w : ByteArray) (hw : w.size ≤ 10) {h : List ByteArray} (hh : h.length ≤ 20) (q : Nat) (hq : 100 ≤ q) : ∃ l : List ByteArray, l.length ≤ 32 ∧ loopS (law5_TextFresh.b9 (k + 10) n w) q ((0 : Int), h) = some l := by
  obtain ⟨r, hr, r0, r1⟩ := fwithin_ok (k := k + 10) (by omega) (n := n) (lo := 0) (hi := 12) (by decide) (by decide) (by decide)
  obtain ⟨m, rfl⟩ : ∃ m : Nat, r = (m : Int) := ⟨r.toNat, by omega⟩
  refine ⟨h ++ (List.range m).map (cand w), by simp; omega, ?_⟩
  have e0 : ((0 : Int), h) = (((0 : Nat) : Int), h ++ (List.range 0).map (cand w)) := by simp
  rw [e0]
  refine loopS_count (fun i : Nat => ((i : Int), h ++ (List.range i).map (cand w))) m _ ?_ ?_ m 0 _ (by omega) (by omega)
  · simp only [law5_TextFresh.b9]
    refine bindO hr ?_
    rw [if_neg (by omega)]
  · intro i hi
    simp only [law5_TextFresh.b9]
    refine bindO hr ?_
    rw [if_pos (by omega)]
    have ej : h ++ (List.range (i + 1)).map (cand w) = h ++ (List.range i).map (cand w) ++ [cand w i] := by rw [List.range_succ, List.map_append, List.append_assoc]; rfl
    have hlen : (h ++ (List.range i).map (cand w)).length ≤ 32 := by simp; omega
    rw [ej]
    refine segB_to (o := h ++ (List.range i).map (cand w) ++ [cand w i]) ?_ (by rw [iadd64 (by omega) (by omega)]; rfl)
    by_cases c : i = 0
    · subst c
      rw [if_pos (show ((0 : Nat) : Int) = 0 from rfl), if_pos (room_small (by omega) (by omega))]
      rfl
    · rw [if_neg (by omega)]
      refine bindO (num_both k (i := i) (by omega) (by omega)).1 ?_
      have := numB_size i
      rw [if_pos (by omega), if_pos (room_small (by omega) (by omega))]
      simp only [cand]
      rw [if_neg c]
theorem in_loop (k : Nat) (l : List ByteArray) (s : ByteArray) (hl : l.length ≤ 1000) (q : Nat) (hq : 2000 ≤ q) : loopS (law5_TextFresh.b22 k l s) q (false, (0 : Int)) = some (l.any fun e => strEq e s) := by
  have e0 : (false, (0 : Int)) = (((l.take 0).any fun e => strEq e s), ((0 : Nat) : Int)) := by simp
  rw [e0]
  refine loopS_count (fun i : Nat => (((l.take i).any fun e => strEq e s), (i : Int))) l.length _ ?_ ?_ l.length 0 _ (by omega) (by omega)
  · simp only [law5_TextFresh.b22]
    rw [if_neg (by omega), List.take_length]
  · intro i hi
    simp only [law5_TextFresh.b22]
    rw [if_pos (by omega), List.take_succ_eq_append_getElem hi, List.any_append]
    by_cases c : ((l.take i).any fun e => strEq e s) = true
    · rw [if_pos c, c, iadd64 (by omega) (by omega)]
      rfl
    · rw [if_neg c, if_pos ⟨by omega, by omega⟩, Int.toNat_natCast]
      refine bindO (o := l[i]) (List.getElem?_eq_getElem hi) ?_
      rw [iadd64 (by omega) (by omega)]
      have : ((l.take i).any fun e => strEq e s) = false := by simpa using c
      rw [this]
      simp
theorem any_iff (l : List ByteArray) (s : ByteArray) : (l.any fun e => strEq e s) = true ↔ s ∈ l := by
  rw [List.any_eq_true]
  constructor
  · rintro ⟨e, he, h⟩
    rw [← (strEq_iff _ _).1 h]; exact he
  · intro h
    exact ⟨s, h, (strEq_iff _ _).2 rfl⟩
theorem seek_loop (k : Nat) (hk : 5000 ≤ k) (w : ByteArray) (hw : w.size ≤ 10) {l : List ByteArray} (hl : l.length ≤ 32) (q : Nat) (hq : 100 ≤ q) : loopS (law5_TextFresh.b15 (k + 40) w l) q (0 : Int) = some (.inr true) := by
  obtain ⟨n, hn, h1, h2⟩ := free_one w hl
  have name : ∀ i : Nat, i < 40 → (if (i : Int) > 0 then ((law5_number.f (k + 40) (i : Int)).bind fun r307 => (if ((w.size + r307.size : Nat) : Int) ≤ 9223372036854775807 then (some (.inl (w ++ r307))) else none)) else (some (.inl w)) : Option (ByteArray ⊕ (Int ⊕ (Unit ⊕ Bool)))) = some (.inl (cand w i)) := by
    intro i hi
    unfold cand
    by_cases c : i = 0
    · subst c; rfl
    · rw [if_pos (by omega), if_neg c]
      refine bindO (num_both (k + 30) (i := i) (by omega) (by omega)).1 ?_
      have := numB_size i
      rw [if_pos (by omega)]
  refine loopS_count (fun i : Nat => (i : Int)) n _ ?_ ?_ n 0 _ (by omega) (by omega)
  · simp only [law5_TextFresh.b15]
    rw [if_pos (by omega)]
    refine segB_to (name n (by omega)) ?_
    refine bindO (in_loop (k + 40) l (cand w n) (by omega) _ (by omega)) ?_
    have ha : (l.any fun e => strEq e (cand w n)) = false := by
      rw [Bool.eq_false_iff]
      exact fun h => h1 ((any_iff _ _).1 h)
    rw [ha, if_pos (by decide)]
    refine bindO (fresh_ok (k + 20) l w hw (by omega) (by omega) hn h1 h2) ?_
    rw [if_pos ((strEq_iff _ _).2 rfl)]
    exact bindO (known_ok k) rfl
  · intro i hi
    simp only [law5_TextFresh.b15]
    rw [if_pos (by omega)]
    refine segB_to (name i (by omega)) ?_
    refine bindO (in_loop (k + 40) l (cand w i) (by omega) _ (by omega)) ?_
    rw [(any_iff _ _).2 (h2 i hi), if_neg (by decide), iadd64 (by omega) (by omega)]
    rfl
theorem freshlaw_ok (k : Nat) (hk : 5000 ≤ k) {t : List ByteArray} (ht : t.length ≤ 1000000000000000000) (w : ByteArray) (n : Int) : law5_TextFresh.f (k + 41) t w n = some true := by
  simp only [law5_TextFresh.f]
  have hw : ∃ w' : ByteArray, (if (w.size : Int) > 10 then (if (0 : Int) ≤ 10 ∧ (0 : Nat) ≤ 10 ∧ (10 : Nat) ≤ w.size then (some (.inl (w.extract 0 10))) else none) else (some (.inl w)) : Option (ByteArray ⊕ Bool)) = some (.inl w') ∧ w'.size ≤ 10 := by
    by_cases h : (w.size : Int) > 10
    · exact ⟨w.extract 0 10, by rw [if_pos h, if_pos ⟨by decide, by decide, by omega⟩], by rw [extract_size _ _ _ (by omega)]; omega⟩
    · exact ⟨w, by rw [if_neg h], by omega⟩
  obtain ⟨w', e1, hw'⟩ := hw
  refine segB_to e1 ?_
  obtain ⟨h, hh, e2⟩ := take_loop (k + 40) ht (k + 40) (by omega)
  refine bindO e2 ?_
  obtain ⟨l, hl, e3⟩ := more_loop (k + 30) n w' hw' hh (k + 40) (by omega)
  refine bindO e3 ?_
  exact altB_r (seek_loop k hk w' hw' hl _ (by omega)) rfl
theorem TextFresh {t : List ByteArray} {w : ByteArray} {n : Int} (ht : t.length * 16 ≤ bigN) (_ : ∀ y ∈ t, y.size ≤ bigN) (_ : w.size ≤ bigN) (_ : inR .i64 n) : ∃ k, law5_TextFresh.f k t w n = some true :=
  ⟨_, freshlaw_ok 5000 (by omega) (by simp only [bigN] at ht; omega) w n⟩
end Go.R3D

/- Host.Ask -/
import Derived.Test.YtdghpmnhlhhcnaaGHN_Host
set_option linter.all false
namespace Go.R1HN
open Go.Ev

/-- What a host answers that has these answers, n of them left, from the s-th one on. -/
def askV (ans : List host_Answer) (s n : Nat) (t : List Int) : Bool × Nat × Nat × List Int :=
  if n = 0 then (true, s, n, outL t []) else match ans[s]? with
    | some a => if a.Trap = true then (false, s + 1, n - 1, []) else (true, s + 1, n - 1, outL t a.Values)
    | none => (true, s, n, [])
theorem ask_tail (b : Nat → List Int → (Int × List Int) → Option ((Int × List Int) ⊕ (List Int)))
    (hb : ∀ k t x, b k t x = (fun ((x, h) : Int × List Int) => (if x < (t.length : Int) then (segB (if (0 : Int) ≤ x ∧ x < (t.length : Int) then (t[x.toNat]?.bind fun e => (if e = 127 then (if (0 : Int) ≤ x ∧ x < (h.length : Int) then (h[x.toNat]?.bind fun e1 => (if (0 : Int) ≤ x ∧ x < (h.length : Int) then (h[x.toNat]?.bind fun _ => (some (.inl (h.set x.toNat (iand .u64 e1 4294967295))))) else none)) else none) else (some (.inl h)))) else none) (fun h => (some (.inl ((iadd .i64 x 1), h))))) else (some (.inr h)) : Option ((Int × List Int) ⊕ (List Int)))) x)
    {k : Nat} {t vs : List Int} {s n : Nat} {c : List host_Call} (ht : t.length ≤ 1000000) (hk : t.length + 1 < k) :
    (if (0 : Int) ≤ (t.length : Int) ∧ (t.length : Int) ≤ (t.length : Int) ∧ roomP (((t.length : Int)).toNat) 8 then (if 0 + min vs.length (((List.replicate (((t.length : Int)).toNat) (0 : Int))).length) ≤ (List.replicate (((t.length : Int)).toNat) (0 : Int)).length then (let y80 : Int := ((min vs.length (((List.replicate (((t.length : Int)).toNat) (0 : Int))).length) : Nat) : Int); ((loopS (b k t) k ((0 : Int), (copyL (List.replicate (((t.length : Int)).toNat) (0 : Int)) 0 (((List.replicate (((t.length : Int)).toNat) (0 : Int))).length) vs))).bind fun h112 => (some (true, s, n, h112, c)))) else none) else none : Option (Bool × Nat × Nat × List Int × List host_Call)) = some (true, s, n, outL t vs, c) := by
  simp only [Int.toNat_natCast, List.length_replicate]
  rw [if_pos ⟨by omega, by omega, room_small (by omega) (by omega)⟩, if_pos (by omega), raw_copy, mask_loop b hb k t vs (by omega) (by omega)]
  rfl
theorem ask_ok {k : Nat} {index : Int} {args t : List Int} {s n : Nat} {ans : List host_Answer} {c : List host_Call} (ha : args.length * 8 ≤ bigN) (hc : c.length ≤ 1000000) (ht : t.length ≤ 1000000) (hs : s + n = ans.length) (hk : t.length + 10 < k) :
    host_Host_Ask.f k index args s n t ans c = some ((askV ans s n t).1, (askV ans s n t).2.1, (askV ans s n t).2.2.1, (askV ans s n t).2.2.2, c ++ [⟨index, args⟩]) := by
  obtain ⟨k, rfl⟩ : ∃ j, k = j + 1 := ⟨k - 1, by omega⟩
  simp only [host_Host_Ask.f]
  rw [tick_ok (room_small (by simp only [bigN] at ha; omega) (by simp only [bigN] at ha; omega)) (by omega)]
  simp only [Option.bind_some]
  rw [if_pos (room_small (by omega) (by omega))]
  by_cases hn : n = 0
  · refine segB_to (o := (s, n, [], false)) (by rw [if_neg (by omega)]) ?_
    simp only [Bool.false_eq_true, if_false]
    have := ask_tail host_Host_Ask.b10 (fun _ _ x => rfl) (k := k) (t := t) (vs := []) (s := s) (n := n) (c := c ++ [⟨index, args⟩]) ht (by omega)
    rw [this]
    simp only [askV, hn, if_true]
  · have hlt : s < ans.length := by omega
    refine segB_to (o := (s + 1, n - 1, ans[s].Values, ans[s].Trap)) ?_ ?_
    · rw [if_pos (by omega), if_pos ⟨by omega, by omega⟩, Nat.add_zero, List.getElem?_eq_getElem hlt]
      simp only [Option.bind_some]
      rw [if_pos ⟨by omega, by omega, by omega⟩]
    · simp only [askV, hn, if_false, List.getElem?_eq_getElem hlt]
      by_cases htr : ans[s].Trap = true
      · simp only [if_pos htr]
      · rw [if_neg htr]
        have := ask_tail host_Host_Ask.b10 (fun _ _ x => rfl) (k := k) (t := t) (vs := ans[s].Values) (s := s + 1) (n := n - 1) (c := c ++ [⟨index, args⟩]) ht (by omega)
        rw [this]
        simp only [htr, if_false]
        rfl
theorem ask2_ok {k : Nat} {index : Int} {t : List Int} {s n : Nat} {ans : List host_Answer} {c : List host_Call} (hc : c.length ≤ 1000000) (ht : t.length ≤ 1000000) (hs : s + n = ans.length) (hk : t.length + 10 < k) :
    host_Host_Ask_2.f k index s n t ans c = some ((askV ans s n t).1, (askV ans s n t).2.1, (askV ans s n t).2.2.1, (askV ans s n t).2.2.2, c ++ [⟨index, []⟩]) := by
  obtain ⟨k, rfl⟩ : ∃ j, k = j + 1 := ⟨k - 1, by omega⟩
  simp only [host_Host_Ask_2.f]
  rw [tick_ok (room_small (by omega) (by omega)) (by omega)]
  simp only [Option.bind_some]
  rw [if_pos (room_small (by omega) (by omega))]
  by_cases hn : n = 0
  · refine segB_to (o := (s, n, [], false)) (by rw [if_neg (by omega)]) ?_
    simp only [Bool.false_eq_true, if_false]
    have := ask_tail host_Host_Ask_2.b10 (fun _ _ x => rfl) (k := k) (t := t) (vs := []) (s := s) (n := n) (c := c ++ [⟨index, []⟩]) ht (by omega)
    rw [this]
    simp only [askV, hn, if_true]
  · have hlt : s < ans.length := by omega
    refine segB_to (o := (s + 1, n - 1, ans[s].Values, ans[s].Trap)) ?_ ?_
    · rw [if_pos (by omega), if_pos ⟨by omega, by omega⟩, Nat.add_zero, List.getElem?_eq_getElem hlt]
      simp only [Option.bind_some]
      rw [if_pos ⟨by omega, by omega, by omega⟩]
    · simp only [askV, hn, if_false, List.getElem?_eq_getElem hlt]
      by_cases htr : ans[s].Trap = true
      · simp only [if_pos htr]
      · rw [if_neg htr]
        have := ask_tail host_Host_Ask_2.b10 (fun _ _ x => rfl) (k := k) (t := t) (vs := ans[s].Values) (s := s + 1) (n := n - 1) (c := c ++ [⟨index, []⟩]) ht (by omega)
        rw [this]
        simp only [htr, if_false]
        rfl
/-- How many are left; where the next one stands. -/
theorem askV_left {ans : List host_Answer} {i : Nat} (t : List Int) : (askV ans (min i ans.length) (ans.length - i) t).2.1 = min (i + 1) ans.length ∧ (askV ans (min i ans.length) (ans.length - i) t).2.2.1 = ans.length - (i + 1) := by
  unfold askV
  by_cases h : ans.length - i = 0
  · rw [if_pos h]
    simp only
    omega
  · rw [if_neg h]
    have hlt : min i ans.length < ans.length := by omega
    rw [List.getElem?_eq_getElem hlt]
    simp only
    split
    · simp only; omega
    · simp only; omega
theorem left_ok {k : Nat} (hk : 0 < k) (h : host_Host) : host_Host_Left.f k h = some (h.l.length : Int) := by
  obtain ⟨k, rfl⟩ : ∃ j, k = j + 1 := ⟨k - 1, by omega⟩
  rfl
theorem imax_left {n i : Nat} (hn : n ≤ 1000000000000000) (hi : i ≤ 1000000) : imax (isub .i64 (isub .i64 (n : Int) (i : Int)) 1) 0 = ((n - (i + 1) : Nat) : Int) := by
  rw [show isub .i64 (n : Int) (i : Int) = (n : Int) - i from isub64 (by omega) (by omega), isub64 (by omega) (by omega)]
  unfold imax
  split <;> omega
end Go.R1HN

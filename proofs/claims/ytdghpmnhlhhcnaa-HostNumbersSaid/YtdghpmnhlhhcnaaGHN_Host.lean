/- Hosts: what their functions answer. -/
import Derived.Test.YtdghpmnhlhhcnaaGHN
import Derived.Test.YtdghpmnhlhhcnaaEvInt
set_option linter.all false
namespace Go.R1HN
open Go.Ev

theorem at?_nat {β : Type} (l : List β) (i : Nat) : at? l (i : Int) = l[i]? := by simp [at?]
theorem room_small {n b : Nat} (h : n * b ≤ 140737488355328) (hn : n ≤ 140737488355328) : roomP n b := ⟨h, hn⟩
theorem tick_ok {n b k : Nat} (h : roomP n b) (hk : 0 < k) : tick n b k = some () := by
  cases k with
  | zero => omega
  | succ k => simp only [tick]; rw [if_pos h]
/-! a row that is turned in place -/
theorem ip_get {β : Type} {F G : List β} (hl : F.length = G.length) {i : Nat} (hi : i < G.length) : (F.take i ++ G.drop i)[i]? = some G[i] := by
  rw [List.getElem?_append_right (by rw [List.length_take]; omega), List.length_take, Nat.min_eq_left (by omega), Nat.sub_self, List.getElem?_drop]
  simp [hi]
theorem ip_set {β : Type} {F G : List β} (hl : F.length = G.length) {i : Nat} (hi : i < G.length) : (F.take i ++ G.drop i).set i (F[i]'(by omega)) = F.take (i + 1) ++ G.drop (i + 1) := by
  have h1 : (F.take i).length = i := by rw [List.length_take]; omega
  rw [List.set_append_right _ _ (by omega), h1, Nat.sub_self, List.drop_eq_getElem_cons hi]
  simp only [List.set_cons_zero]
  rw [show List.take (i + 1) F = List.take i F ++ [F[i]'(by omega)] from List.take_succ_eq_append_getElem (by omega), List.append_assoc]
  rfl
theorem ip_len {β : Type} {F G : List β} (hl : F.length = G.length) (i : Nat) : (F.take i ++ G.drop i).length = G.length := by
  rw [List.length_append, List.length_take, List.length_drop]; omega
theorem ip_end {β : Type} {F G : List β} (hl : F.length = G.length) : F.take G.length ++ G.drop G.length = F := by
  rw [List.drop_length, List.append_nil, ← hl, List.take_length]
def mask (t v : Int) : Int := if t = 127 then iand .u64 v 4294967295 else v
theorem mask_zero (t : Int) : mask t 0 = 0 := by
  unfold mask; split <;> decide
/-- What is answered, ahead of the mask; behind it. -/
def rawL : Nat → List Int → List Int
  | 0, _ => []
  | m + 1, [] => 0 :: rawL m []
  | m + 1, v :: vs => v :: rawL m vs
def outL : List Int → List Int → List Int
  | [], _ => []
  | _ :: ts, [] => 0 :: outL ts []
  | t :: ts, v :: vs => mask t v :: outL ts vs
theorem rawL_len : ∀ (m : Nat) (vs : List Int), (rawL m vs).length = m
  | 0, _ => rfl
  | m + 1, [] => by simp [rawL, rawL_len m []]
  | m + 1, v :: vs => by simp [rawL, rawL_len m vs]
theorem outL_len : ∀ (ts vs : List Int), (outL ts vs).length = ts.length
  | [], _ => rfl
  | _ :: ts, [] => by simp [outL, outL_len ts []]
  | t :: ts, v :: vs => by simp [outL, outL_len ts vs]
theorem rawL_nil : ∀ m : Nat, rawL m [] = List.replicate m 0
  | 0 => rfl
  | m + 1 => by simp [rawL, rawL_nil m, List.replicate_succ]
theorem raw_copy : ∀ (m : Nat) (vs : List Int), copyL (List.replicate m (0 : Int)) 0 m vs = rawL m vs := by
  have key : ∀ (m : Nat) (vs : List Int), vs.take m ++ List.replicate (m - vs.length) 0 = rawL m vs := by
    intro m
    induction m with
    | zero => intro vs; simp [rawL]
    | succ m ih =>
      intro vs
      cases vs with
      | nil => simp [rawL_nil]
      | cons v vs => simp [rawL, ← ih vs]
  intro m vs
  rw [← key]
  unfold copyL
  simp only [List.take_zero, List.nil_append, Nat.zero_add, List.drop_replicate, List.length_replicate, List.take_replicate]
  rcases Nat.le_total vs.length m with h | h
  · rw [Nat.min_eq_left h, List.take_length, List.take_of_length_le h, Nat.zero_min, Nat.min_eq_right (by omega)]
    simp
  · rw [Nat.min_eq_right h]
    simp [h]
theorem outL_get : ∀ (ts vs : List Int) (i : Nat) (h : i < ts.length), (outL ts vs)[i]'(by rw [outL_len]; exact h) = mask ts[i] ((rawL ts.length vs)[i]'(by rw [rawL_len]; exact h))
  | [], _, i, h => by simp at h
  | t :: ts, [], 0, h => by simp [outL, rawL, mask_zero]
  | t :: ts, v :: vs, 0, h => by simp [outL, rawL]
  | t :: ts, [], i + 1, h => by
    simp only [outL, List.length_cons, rawL, List.getElem_cons_succ]
    exact outL_get ts [] i (by simpa using h)
  | t :: ts, v :: vs, i + 1, h => by
    simp only [outL, List.length_cons, rawL, List.getElem_cons_succ]
    exact outL_get ts vs i (by simpa using h)
/-- A loop that masks. -/
theorem mask_loop (b : Nat → List Int → (Int × List Int) → Option ((Int × List Int) ⊕ (List Int)))
    (hb : ∀ k t x, b k t x = (fun ((x, h) : Int × List Int) => (if x < (t.length : Int) then (segB (if (0 : Int) ≤ x ∧ x < (t.length : Int) then (t[x.toNat]?.bind fun e => (if e = 127 then (if (0 : Int) ≤ x ∧ x < (h.length : Int) then (h[x.toNat]?.bind fun e1 => (if (0 : Int) ≤ x ∧ x < (h.length : Int) then (h[x.toNat]?.bind fun _ => (some (.inl (h.set x.toNat (iand .u64 e1 4294967295))))) else none)) else none) else (some (.inl h)))) else none) (fun h => (some (.inl ((iadd .i64 x 1), h))))) else (some (.inr h)) : Option ((Int × List Int) ⊕ (List Int)))) x)
    (k : Nat) (t vs : List Int) (ht : t.length ≤ 1000000000000000) (hk : t.length < k) : loopS (b k t) k ((0 : Int), rawL t.length vs) = some (outL t vs) := by
  have hl : (outL t vs).length = (rawL t.length vs).length := by rw [outL_len, rawL_len]
  have hr := rawL_len t.length vs
  have := loopS_count (f := b k t) (fun i : Nat => ((i : Int), (outL t vs).take i ++ (rawL t.length vs).drop i)) t.length (outL t vs) ?_ ?_ t.length 0 k (by omega) hk
  · simpa using this
  · rw [hb]
    simp only
    rw [if_neg (by omega)]
    have := ip_end hl
    rw [hr] at this
    rw [this]
  · intro i hi
    have hg := ip_get hl (i := i) (by omega)
    have hs := ip_set hl (i := i) (by omega)
    have hn := ip_len hl i
    rw [hr] at hn
    have hc : (0 : Int) ≤ (i : Int) ∧ (i : Int) < (t.length : Int) := ⟨by omega, by omega⟩
    rw [hb]
    simp only [Int.toNat_natCast, hn]
    simp only [if_pos hc, if_pos hc.2, List.getElem?_eq_getElem hi, Option.bind_some, hg]
    have hm := outL_get t vs i hi
    rw [iadd64 (by omega) (by omega)]
    by_cases h7 : t[i] = 127
    · rw [if_pos h7]
      simp only [segB]
      have : iand .u64 ((rawL t.length vs)[i]'(by omega)) 4294967295 = (outL t vs)[i]'(by rw [outL_len]; exact hi) := by rw [hm]; unfold mask; rw [if_pos h7]
      rw [this, hs]
      rfl
    · rw [if_neg h7]
      simp only [segB]
      have e : (outL t vs).take i ++ (rawL t.length vs).drop i = (outL t vs).take (i + 1) ++ (rawL t.length vs).drop (i + 1) := by
        rw [← hs]
        have h2 : (rawL t.length vs)[i]'(by omega) = (outL t vs)[i]'(by rw [outL_len]; exact hi) := by rw [hm]; unfold mask; rw [if_neg h7]
        rw [← h2]
        refine (set_same' ?_).symm
        exact hg
      rw [e]
      rfl
where
  set_same' {l : List Int} {s : Nat} {a : Int} (h : l[s]? = some a) : l.set s a = l := by
    apply List.ext_getElem?
    intro j
    rw [List.getElem?_set]
    split
    · rename_i hj; subst hj
      split
      · exact h.symm
      · rename_i hl; rw [List.getElem?_eq_none (by omega)] at h; cases h
    · rfl
/-! New -/
def Ans (l : List host_Answer) : Prop := ∀ a ∈ l, a.Values.length * 8 ≤ bigN
theorem new_loop (b : Nat → List host_Answer → (Int × List host_Answer) → Option ((Int × List host_Answer) ⊕ (List host_Answer)))
    (hb : ∀ k l x, b k l x = (fun ((x, h) : Int × List host_Answer) => (if x < (l.length : Int) then ((at? l x).bind fun e => ((tick e.Values.length 8 k).bind fun _ => (if roomP (h.length + 1) 32 then (some (.inl ((iadd .i64 x 1), (h ++ ([e] : List host_Answer))))) else none))) else (some (.inr h)) : Option ((Int × List host_Answer) ⊕ (List host_Answer)))) x)
    (k : Nat) (l : List host_Answer) (h32 : l.length * 32 ≤ bigN) (ha : Ans l) (hk : l.length < k) : loopS (b k l) k ((0 : Int), ([] : List host_Answer)) = some l := by
  have := loopS_count (f := b k l) (fun i : Nat => ((i : Int), l.take i)) l.length l ?_ ?_ l.length 0 k (by omega) hk
  · simpa using this
  · rw [hb]
    simp only
    rw [if_neg (by omega), List.take_length]
  · intro i hi
    have hlen : (l.take i).length = i := by rw [List.length_take]; omega
    rw [hb]
    simp only
    rw [if_pos (by omega), at?_nat, List.getElem?_eq_getElem hi]
    simp only [Option.bind_some]
    have hv := ha _ (List.getElem_mem hi)
    rw [tick_ok (room_small (by simp only [bigN] at hv; omega) (by simp only [bigN] at hv; omega)) (by omega)]
    simp only [Option.bind_some]
    rw [hlen, if_pos (room_small (by simp only [bigN] at h32; omega) (by simp only [bigN] at h32; omega)), iadd64 (by omega) (by simp only [bigN] at h32; omega), List.take_succ_eq_append_getElem hi]
    rfl
theorem new_ok {k : Nat} {l : List host_Answer} (h32 : l.length * 32 ≤ bigN) (ha : Ans l) (hk : l.length + 1 < k) : host_New.f k l = some l := by
  obtain ⟨k, rfl⟩ : ∃ j, k = j + 1 := ⟨k - 1, by omega⟩
  simp only [host_New.f]
  rw [new_loop host_New.b3 (fun _ _ x => rfl) k l h32 ha (by omega)]
  rfl
/-! Calls -/
def CallsOk (l : List host_Call) : Prop := ∀ a ∈ l, a.Args.length * 8 ≤ bigN
theorem calls_ok {k : Nat} {s n : Nat} {l : List host_Answer} {c : List host_Call} (hc : CallsOk c) (hl : c.length ≤ 1000000) (hk : c.length + 1 < k) : host_Host_Calls.f k s n l c = some c := by
  obtain ⟨k, rfl⟩ : ∃ j, k = j + 1 := ⟨k - 1, by omega⟩
  simp only [host_Host_Calls.f]
  have := loopS_count (f := host_Host_Calls.b3 k c) (fun i : Nat => ((i : Int), c.take i)) c.length c ?_ ?_ c.length 0 k (by omega) (by omega)
  · simp only [List.take_zero, show ((0 : Nat) : Int) = 0 from rfl] at this
    rw [this]; rfl
  · simp only [host_Host_Calls.b3]
    rw [if_neg (by omega), List.take_length]
  · intro i hi
    have hlen : (c.take i).length = i := by rw [List.length_take]; omega
    simp only [host_Host_Calls.b3]
    rw [if_pos (by omega), if_pos ⟨by omega, by omega⟩, Int.toNat_natCast, List.getElem?_eq_getElem hi]
    simp only [Option.bind_some]
    have hv := hc _ (List.getElem_mem hi)
    rw [tick_ok (room_small (by simp only [bigN] at hv; omega) (by simp only [bigN] at hv; omega)) (by omega)]
    simp only [Option.bind_some]
    rw [hlen, if_pos (room_small (by omega) (by omega)), iadd64 (by omega) (by omega), List.take_succ_eq_append_getElem hi]
    rfl
theorem same_ok {k : Nat} (l : List Int) (hk : l.length + 1 < k) (hl : l.length ≤ 1000000000000000) : law13_same.f k l l = some true := by
  obtain ⟨k, rfl⟩ : ∃ j, k = j + 1 := ⟨k - 1, by omega⟩
  simp only [law13_same.f, if_true]
  have := loopS_count (f := law13_same.b4 k l l) (fun i : Nat => (i : Int)) l.length (Sum.inl ()) ?_ ?_ l.length 0 k (by omega) (by omega)
  · simp only [show ((0 : Nat) : Int) = 0 from rfl] at this
    rw [this]; rfl
  · simp only [law13_same.b4]
    rw [if_neg (by omega)]
  · intro i hi
    simp only [law13_same.b4]
    rw [if_pos (by omega), at?_nat, List.getElem?_eq_getElem hi]
    simp only [Option.bind_some, if_true]
    rw [iadd64 (by omega) (by omega)]
    rfl
theorem known13 (j : Nat) : law13_known.f (j + 40) = some true := by kernel_rfl
theorem known_ok {k : Nat} (hk : 40 ≤ k) : law13_known.f k = some true := by
  obtain ⟨j, rfl⟩ : ∃ j, k = j + 40 := ⟨k - 40, by omega⟩
  exact known13 j
end Go.R1HN

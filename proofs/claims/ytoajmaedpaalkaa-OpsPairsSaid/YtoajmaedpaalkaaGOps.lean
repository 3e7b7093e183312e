/- Ops: which numbers are none. -/
import Derived.Test.YtoajmaedpaalkaaGO
import Derived.Test.YtoajmaedpaalkaaEvInt
set_option linter.all false
namespace Go.R2
open Go.Ev
set_option maxRecDepth 100000

def Far (op : Int) : Prop := op < 0 ∨ (197 ≤ op ∧ op < 64514) ∨ 64523 < op
theorem far_within {op a b : Int} (h : op < a ∨ b < op) (k : Nat) : ints_within.f (k + 1) op a b = some false := by
  simp only [ints_within.f]
  by_cases h1 : op ≥ a
  · rw [if_pos h1, decide_eq_false (by omega)]
  · rw [if_neg h1]
theorem far_ints {op : Int} (h : Far op) (k : Nat) : ints_Is.f (k + 2) op = some false := by
  unfold Far at h
  simp only [ints_Is.f]
  rw [far_within (by omega), far_within (by omega), far_within (by omega)]
  simp (disch := omega) only [Option.bind_some, if_neg, Bool.false_eq_true, if_false]
theorem far_floats {op : Int} (h : Far op) (k : Nat) : floats_Is.f (k + 1) op = some false := by
  unfold Far at h
  simp only [floats_Is.f]
  rcases h with h | h | h <;> simp (disch := omega) only [segB, if_neg, if_pos, decide_eq_false, decide_eq_true, Bool.false_eq_true, if_false]
theorem far_ref1 {op : Int} (h : Far op) (k : Nat) : ref1_Is.f (k + 1) op = some false := by
  unfold Far at h
  simp only [ref1_Is.f]
  rcases h with h | h | h <;> simp (disch := omega) only [segB, if_neg, if_pos, decide_eq_false, decide_eq_true, Bool.false_eq_true, if_false]
theorem far_ref2 {op : Int} (h : Far op) (k : Nat) : ref2_Is.f (k + 1) op = some false := by
  unfold Far at h
  simp only [ref2_Is.f]
  rcases h with h | h | h <;> simp (disch := omega) only [segB, if_neg, if_pos, decide_eq_false, decide_eq_true, Bool.false_eq_true, if_false]
theorem far_num {op : Int} (h : Far op) (k : Nat) : ops_Numeric.f (k + 3) op = some (⟨[], []⟩, false) := by
  simp only [ops_Numeric.f]
  rw [far_ints h, far_floats h]
  rfl
theorem far_num3 {op : Int} (h : Far op) (k : Nat) : ref3_Numeric.f (k + 3) op = some (false, [], []) := by
  simp only [ref3_Numeric.f]
  rw [far_ref1 h, far_ref2 h]
  rfl
theorem far_acc {op : Int} (h : Far op) (k : Nat) : ops_Access.f (k + 1) op = some (0, 0, false, false) := by
  unfold Far at h
  simp only [ops_Access.f]
  simp (disch := omega) only [segB, if_neg, Bool.false_eq_true, if_false]
theorem far_acc3 {op : Int} (h : Far op) (k : Nat) : ref3_Access.f (k + 1) op = some (0, 0, false) := by
  unfold Far at h
  simp only [ref3_Access.f]
  simp (disch := omega) only [segB, if_neg, if_pos, Bool.false_eq_true, if_false, if_true, Int.lt_irrefl]
theorem far_con {op : Int} (h : Far op) (k : Nat) : ops_Const.f (k + 1) op = some (0, false) := by
  unfold Far at h
  simp only [ops_Const.f]
  simp (disch := omega) only [if_neg]
theorem far_con3 {op : Int} (h : Far op) (k : Nat) : ref3_Const.f (k + 1) op = some 0 := by
  unfold Far at h
  simp only [ref3_Const.f]
  simp (disch := omega) only [if_neg]
theorem far_opens {op : Int} (h : Far op) (k : Nat) : ops_Opens.f (k + 1) op = some false := by
  unfold Far at h
  simp only [ops_Opens.f]
  rcases h with h | h | h <;> simp (disch := omega) only [if_neg, if_pos, decide_eq_false]
theorem far_opens3 {op : Int} (h : Far op) (k : Nat) : ref3_Opens.f (k + 1) op = some false := by
  unfold Far at h
  simp only [ref3_Opens.f]
  rcases h with h | h | h <;> simp (disch := omega) only [if_neg, if_pos, decide_eq_false]
theorem far_known {op : Int} (h : Far op) (k : Nat) : ops_Known.f (k + 3) op = some false := by
  have h' := h
  unfold Far at h'
  simp only [ops_Known.f]
  rw [far_acc h, far_con h, far_ints h, far_floats h, far_opens h]
  simp (disch := omega) only [segB, if_neg, Bool.false_eq_true, if_false, Option.bind_some]
theorem far_known3 {op : Int} (h : Far op) (k : Nat) : ref3_Known.f (k + 4) op = some false := by
  have h' := h
  unfold Far at h'
  simp only [ref3_Known.f]
  rw [far_num3 h, far_acc3 h, far_con3 h]
  rcases h' with h | h | h <;> simp (disch := omega) only [segB, if_neg, if_pos, decide_eq_false, decide_eq_true, Bool.false_eq_true, if_false, if_true, Option.bind_some]
theorem far_rich {op : Int} (h : Far op) (k : Nat) : ops_Rich.f (k + 4) op = some false := by
  simp only [ops_Rich.f]
  rw [far_known h]
  rfl
theorem far_rich3 {op : Int} (h : Far op) (k : Nat) : ref3_Rich.f (k + 1) op = some false := by
  unfold Far at h
  simp only [ref3_Rich.f]
  rcases h with h | h | h <;> simp (disch := omega) only [if_neg, if_pos, decide_eq_false]
theorem same_self {k : Nat} (l : List Int) (hk : l.length + 1 < k) (hl : l.length ≤ 1000000000000000) : book_Same_int.f k l l = some true := by
  obtain ⟨k, rfl⟩ : ∃ j, k = j + 1 := ⟨k - 1, by omega⟩
  simp only [book_Same_int.f, if_true]
  have := loopS_count (f := book_Same_int.b4 k l l) (fun i : Nat => (i : Int)) l.length (Sum.inl ()) ?_ ?_ l.length 0 k (by omega) (by omega)
  · simp only [show ((0 : Nat) : Int) = 0 from rfl] at this
    rw [this]; rfl
  · simp only [book_Same_int.b4]
    rw [if_neg (by omega)]
  · intro i hi
    simp only [book_Same_int.b4]
    rw [if_pos (by omega), show at? l (i : Int) = l[i]? from by simp [at?], List.getElem?_eq_getElem hi]
    simp only [Option.bind_some, if_true]
    rw [iadd64 (by omega) (by omega)]
    rfl
theorem far_same {op : Int} (h : Far op) (k : Nat) : law3_same.f (k + 12) op = some true := by
  simp only [law3_same.f]
  rw [far_num h, far_num3 h, far_acc h, far_acc3 h, far_con h, far_con3 h, far_known h, far_known3 h, far_rich h, far_rich3 h, far_opens h, far_opens3 h]
  rfl
/-! the others, one by one -/
theorem near_cases {op : Int} (h : ¬ Far op) : (∃ n : Nat, n < 197 ∧ op = (n : Int)) ∨ ∃ n : Nat, n < 10 ∧ op = ((n + 64514 : Nat) : Int) := by
  unfold Far at h
  rcases Int.lt_or_le op 197 with h1 | h1
  · exact .inl ⟨op.toNat, by omega, by omega⟩
  · exact .inr ⟨op.toNat - 64514, by omega, by omega⟩
theorem near_all {f : Int → Bool} (h1 : (List.range 197).all (fun n => f (n : Int)) = true) (h2 : (List.range 10).all (fun n => f ((n + 64514 : Nat) : Int)) = true) {op : Int} (h : ¬ Far op) : f op = true := by
  rcases near_cases h with ⟨n, hn, rfl⟩ | ⟨n, hn, rfl⟩
  · exact List.all_eq_true.1 h1 n (by simpa using hn)
  · exact List.all_eq_true.1 h2 n (by simpa using hn)
def isT : Option Bool → Bool
  | some b => b
  | none => false
theorem isT_ok {x : Option Bool} (h : isT x = true) : x = some true := by
  cases x with
  | none => cases h
  | some b => cases b <;> simp_all [isT]
theorem same_near1 (j : Nat) : (List.range 197).all (fun n => isT (law3_same.f (j + 12) (n : Int))) = true := by kernel_rfl
theorem same_near2 (j : Nat) : (List.range 10).all (fun n => isT (law3_same.f (j + 12) ((n + 64514 : Nat) : Int))) = true := by kernel_rfl
theorem same_ok (j : Nat) (op : Int) : law3_same.f (j + 12) op = some true := by
  by_cases h : Far op
  · exact far_same h j
  · exact isT_ok (near_all (f := fun op => isT (law3_same.f (j + 12) op)) (same_near1 j) (same_near2 j) h)
theorem known_ok (j : Nat) : law3_known.f (j + 12) = some true := by kernel_rfl
/-- The law OpsTells. -/
theorem OpsTells {op : Int} (_ : inR .i64 op) : ∃ k, law3_OpsTells.f k op = some true := by
  refine ⟨13, ?_⟩
  show law3_OpsTells.f (12 + 1) op = some true
  simp only [law3_OpsTells.f]
  rw [same_ok 0, same_ok 0, same_ok 0, known_ok 0]
  rfl
/-! Rich -/
def richE (k : Nat) (e192 : Int) : Option (Unit ⊕ (Int ⊕ (Unit ⊕ Unit))) := (segB ((ops_Rich.f k e192).bind fun r198 => (if r198 = true then ((ops_Known.f k e192).bind fun r200 => (if (!r200) = true then (some (.inr (.inr (.inr (.inr ()))))) else (some (.inl ())))) else (some (.inl ())))) (fun _ => ((ops_Numeric.f k e192).bind fun (r203, r204) => (if r204 = true then ((ops_Rich.f k e192).bind fun r206 => (if e192 ≥ 192 then (if e192 ≤ 196 then (if (!(r206 == true)) = true then (some (.inr (.inr (.inr ())))) else (some (.inl ()))) else (if (!(r206 == (decide (e192 ≥ 64512)))) = true then (some (.inr (.inr (.inr ())))) else (some (.inl ())))) else (if (!(r206 == (decide (e192 ≥ 64512)))) = true then (some (.inr (.inr (.inr ())))) else (some (.inl ()))))) else (some (.inl ()))))))
def isL {a b : Type} : Option (a ⊕ b) → Bool
  | some (.inl _) => true
  | _ => false
theorem isL_ok {b : Type} {x : Option (Unit ⊕ b)} (h : isL x = true) : x = some (.inl ()) := by
  rcases x with _ | x | x
  · cases h
  · rfl
  · cases h
theorem rich_near1 (j : Nat) : (List.range 197).all (fun n => isL (richE (j + 12) (n : Int))) = true := by kernel_rfl
theorem rich_near2 (j : Nat) : (List.range 10).all (fun n => isL (richE (j + 12) ((n + 64514 : Nat) : Int))) = true := by kernel_rfl
theorem rich_ok (j : Nat) (op : Int) : richE (j + 12) op = some (.inl ()) := by
  by_cases h : Far op
  · unfold richE
    rw [far_rich h, far_num h]
    rfl
  · exact isL_ok (near_all (f := fun op => isL (richE (j + 12) op)) (rich_near1 j) (rich_near2 j) h)
theorem rich_loop (j : Nat) (op : Int) (i : Nat) (hi : i < 3) : law3_OpsRich.b2 (j + 12) op (i : Int) = some (.inl ((i + 1 : Nat) : Int)) := by
  have key : ∀ (e : Int), (segB (richE (j + 12) e) (fun _ => some (.inl (iadd .i64 (i : Int) 1))) : Option (Int ⊕ (Unit ⊕ Unit))) = some (.inl ((i + 1 : Nat) : Int)) := by
    intro e
    rw [rich_ok, iadd64 (by omega) (by omega)]
    rfl
  match i, hi with
  | 0, _ => exact key _
  | 1, _ => exact key _
  | 2, _ => exact key _
/-- The law OpsRich. -/
theorem OpsRich {op : Int} (_ : inR .i64 op) : ∃ k, law3_OpsRich.f k op = some true := by
  refine ⟨13, ?_⟩
  show law3_OpsRich.f (12 + 1) op = some true
  simp only [law3_OpsRich.f]
  have : loopS (law3_OpsRich.b2 12 op) 12 (0 : Int) = some (Sum.inl ()) := loopS_count (f := law3_OpsRich.b2 12 op) (fun i : Nat => (i : Int)) 3 (Sum.inl ()) (by rfl) (fun i hi => rich_loop 0 op i hi) 3 0 12 (by omega) (by omega)
  rw [this, known_ok 0]
  rfl
/-! All -/
def kn (op : Int) : Bool := isT (ref3_Known.f 12 op)
theorem kn_near1 (j : Nat) : (List.range 197).all (fun n => (ops_Known.f (j + 12) (n : Int) == some (kn (n : Int))) && (ref3_Known.f (j + 12) (n : Int) == some (kn (n : Int)))) = true := by kernel_rfl
theorem kn_near2 (j : Nat) : (List.range 10).all (fun n => (ops_Known.f (j + 12) ((n + 64514 : Nat) : Int) == some (kn ((n + 64514 : Nat) : Int))) && (ref3_Known.f (j + 12) ((n + 64514 : Nat) : Int) == some (kn ((n + 64514 : Nat) : Int)))) = true := by kernel_rfl
theorem kn_far {op : Int} (h : Far op) : kn op = false := by unfold kn; rw [far_known3 h 8]; rfl
theorem kn_ok (j : Nat) (op : Int) : ops_Known.f (j + 12) op = some (kn op) ∧ ref3_Known.f (j + 12) op = some (kn op) := by
  by_cases h : Far op
  · rw [kn_far h]; exact ⟨far_known h _, far_known3 h _⟩
  · have := near_all (f := fun op => (ops_Known.f (j + 12) op == some (kn op)) && (ref3_Known.f (j + 12) op == some (kn op))) (kn_near1 j) (kn_near2 j) h
    simp only [Bool.and_eq_true, beq_iff_eq] at this
    exact this
def coll : Nat → Int → List Int → List Int
  | 0, _, l => l
  | n + 1, x, l => coll n (x + 1) (if kn x = true then l ++ [x] else l)
theorem coll_add : ∀ (a b : Nat) (x : Int) (l : List Int), coll (a + b) x l = coll b (x + a) (coll a x l)
  | 0, b, x, l => by simp [coll]
  | a + 1, b, x, l => by
    rw [show a + 1 + b = (a + b) + 1 from by omega]
    simp only [coll]
    rw [coll_add a b]
    congr 1
    omega
theorem coll_skip : ∀ (n : Nat) (x : Int) (l : List Int), (∀ y, x ≤ y → y < x + n → Far y) → coll n x l = l
  | 0, x, l, _ => rfl
  | n + 1, x, l, h => by
    simp only [coll]
    rw [kn_far (h x (by omega) (by omega))]
    exact coll_skip n (x + 1) l fun y h1 h2 => h y (by omega) (by omega)
theorem coll_len : ∀ (n : Nat) (x : Int) (l : List Int), (coll n x l).length ≤ l.length + n
  | 0, x, l => by simp [coll]
  | n + 1, x, l => by
    simp only [coll]
    refine Nat.le_trans (coll_len n _ _) ?_
    split <;> simp <;> omega
theorem coll_loop {O : Type} {f : Int × List Int → Option ((Int × List Int) ⊕ O)} {g : List Int → O} {hi : Int}
    (step : ∀ x l, -1000 ≤ x → x < hi → l.length ≤ 100000 → f (x, l) = some (.inl (x + 1, if kn x = true then l ++ [x] else l))) (stop : ∀ l, f (hi, l) = some (.inr (g l))) :
    ∀ (n : Nat) (x : Int) (l : List Int) (m : Nat), -1000 ≤ x → x + n = hi → l.length + n ≤ 100000 → n < m → loopS f m (x, l) = some (g (coll n x l))
  | 0, x, l, m, _, hx, _, hm => by
    obtain ⟨m, rfl⟩ : ∃ j, m = j + 1 := ⟨m - 1, by omega⟩
    have : x = hi := by omega
    subst this
    exact loopS_last (stop l)
  | n + 1, x, l, m, h0, hx, hl, hm => by
    obtain ⟨m, rfl⟩ : ∃ j, m = j + 1 := ⟨m - 1, by omega⟩
    rw [loopS_next (step x l h0 (by omega) (by omega))]
    have : (if kn x = true then l ++ [x] else l).length ≤ l.length + 1 := by split <;> simp
    exact coll_loop step stop n (x + 1) _ m (by omega) (by omega) (by omega) (by omega)
theorem coll_eq : ∀ (n : Nat) (x : Int) (l : List Int), coll n x l = l ++ ((List.range n).filter (fun i : Nat => kn (x + (i : Int)))).map (fun i : Nat => x + (i : Int))
  | 0, x, l => by simp [coll]
  | n + 1, x, l => by
    simp only [coll]
    rw [coll_eq n, List.range_succ_eq_map, List.filter_cons, List.filter_map]
    have e : ∀ i : Nat, x + 1 + (i : Int) = x + ((i + 1 : Nat) : Int) := fun i => by omega
    simp only [e]
    cases h : kn x with
    | true => simp [h, Function.comp_def]
    | false => simp [h, Function.comp_def]
def knN : List Int := [0, 1, 2, 3, 4, 5, 11, 12, 13, 14, 15, 16, 18, 26, 27, 32, 33, 34, 35, 36, 40, 41, 43, 44, 45, 46, 47, 48, 49, 50, 51, 52, 53, 54, 55, 57, 58, 59, 60, 61, 62, 63, 64, 65, 66, 68, 69, 70, 71, 72, 73, 74, 75, 76, 77, 78, 79, 80, 81, 82, 83, 84, 85, 86, 87, 88, 89, 90, 97, 98, 99, 100, 101, 102, 103, 104, 105, 106, 107, 108, 109, 110, 111, 112, 113, 114, 115, 116, 117, 118, 119, 120, 121, 122, 123, 124, 125, 126, 127, 128, 129, 130, 131, 132, 133, 134, 135, 136, 137, 138, 153, 154, 155, 156, 157, 158, 159, 160, 161, 162, 163, 164, 165, 166, 167, 170, 171, 172, 173, 176, 177, 183, 184, 185, 186, 189, 191, 192, 193, 194, 195, 196, 64514, 64515, 64518, 64519, 64520, 64521, 64522, 64523]
theorem knN_1 : ((List.range 272).filter (fun i : Nat => kn ((0 : Int) + (i : Int)))).map (fun i : Nat => (0 : Int) + (i : Int)) ++ ((List.range 12).filter (fun i : Nat => kn ((64512 : Int) + (i : Int)))).map (fun i : Nat => (64512 : Int) + (i : Int)) = knN := by kernel_rfl
/-- All that are known. -/
def knL : List Int := coll 12 64512 (coll 272 0 [])
theorem knL_len : knL.length ≤ 284 := by
  have h1 := coll_len 12 64512 (coll 272 0 [])
  have h2 := coll_len 272 0 []
  simp only [List.length_nil] at h2
  exact Nat.le_trans h1 (by omega)
theorem room_small {n b : Nat} (h : n * b ≤ 140737488355328) (hn : n ≤ 140737488355328) : roomP n b := ⟨h, hn⟩
theorem all_loop (j : Nat) (hj : 70000 ≤ j) : loopS (ops_All.b3 (j + 12)) (j + 12) ((0 : Int), ([] : List Int)) = some knL := by
  rw [coll_loop (f := ops_All.b3 (j + 12)) (g := id) (hi := 64524) ?_ ?_ 64524 0 [] (j + 12) (by omega) (by omega) (by simp) (by omega)]
  · rw [show 64524 = 272 + (64240 + 12) from rfl, coll_add, coll_add, coll_skip 64240 _ _ (fun y h1 h2 => by unfold Far; omega)]
    rfl
  · intro x l h0 hx hl
    simp only [ops_All.b3]
    rw [if_pos hx, (kn_ok j x).1, iadd64 (by omega) (by omega)]
    cases h : kn x with
    | true => simp only [Option.bind_some, if_true]; rw [if_pos (room_small (by omega) (by omega))]; rfl
    | false => rfl
  · intro l
    simp only [ops_All.b3]
    rw [if_neg (by omega)]
    rfl
theorem knL_eq : knL = knN := by
  unfold knL
  rw [coll_eq, coll_eq, List.nil_append]
  exact knN_1
theorem knL_pos : 0 < knL.length := by rw [knL_eq]; decide
theorem clip_ok {k : Nat} {l : List Int} (h : 0 < l.length) : slices_Clip_int_int.f (k + 1) l = some l.length := by
  simp only [slices_Clip_int_int.f]
  rw [if_pos ⟨by omega, by omega, by omega, by omega, by omega, by omega, h⟩]
  congr 1
theorem all_ok {k : Nat} (hk : 70020 ≤ k) : ops_All.f k = some (knL.length, knL) := by
  obtain ⟨j, rfl⟩ : ∃ j, k = (j + 12) + 1 := ⟨k - 13, by omega⟩
  simp only [ops_All.f]
  rw [all_loop j (by omega)]
  simp only [Option.bind_some]
  rw [clip_ok knL_pos]
  rfl
theorem num_loop1 (j : Nat) (hj : 70000 ≤ j) : loopS (law3_OpsNumbers.b3 (j + 12)) (j + 12) ((-3 : Int), ([] : List Int)) = some (.inl (coll 272 0 [])) := by
  rw [coll_loop (f := law3_OpsNumbers.b3 (j + 12)) (g := Sum.inl) (hi := 272) ?_ ?_ 275 (-3) [] (j + 12) (by omega) (by omega) (by simp) (by omega)]
  · rw [show 275 = 3 + 272 from rfl, coll_add, coll_skip 3 _ _ (fun y h1 h2 => by unfold Far; omega)]
    rfl
  · intro x l h0 hx hl
    simp only [law3_OpsNumbers.b3]
    rw [if_pos hx, same_ok, same_ok, same_ok, (kn_ok j x).2, iadd64 (by omega) (by omega)]
    cases h : kn x with
    | true => simp only [Option.bind_some, Bool.not_true, Bool.false_eq_true, if_false, if_true]; rw [if_pos (room_small (by omega) (by omega))]; rfl
    | false => rfl
  · intro l
    simp only [law3_OpsNumbers.b3]
    rw [if_neg (by omega)]
theorem num_loop2 (j : Nat) (hj : 70000 ≤ j) : loopS (law3_OpsNumbers.b10 (j + 12)) (j + 12) ((64512 : Int), coll 272 0 []) = some knL := by
  have hl := coll_len 272 0 []
  simp only [List.length_nil] at hl
  rw [coll_loop (f := law3_OpsNumbers.b10 (j + 12)) (g := id) (hi := 64544) ?_ ?_ 32 64512 _ (j + 12) (by omega) (by omega) (by omega) (by omega)]
  · rw [show 32 = 12 + 20 from rfl, coll_add, coll_skip 20 _ _ (fun y h1 h2 => by unfold Far; omega)]
    rfl
  · intro x l h0 hx hl
    simp only [law3_OpsNumbers.b10]
    rw [if_pos hx, (kn_ok j x).2, iadd64 (by omega) (by omega)]
    cases h : kn x with
    | true => simp only [Option.bind_some, if_true]; rw [if_pos (room_small (by omega) (by omega))]; rfl
    | false => rfl
  · intro l
    simp only [law3_OpsNumbers.b10]
    rw [if_neg (by omega)]
    rfl
/-- The law OpsNumbers. -/
theorem numbers_ok (j : Nat) (hj : 70100 ≤ j) : law3_OpsNumbers.f ((j + 12) + 1) = some true := by
  have hl := knL_len
  simp only [law3_OpsNumbers.f]
  rw [num_loop1 j (by omega)]
  simp only [altB]
  rw [num_loop2 j (by omega), all_ok (by omega)]
  simp only [Option.bind_some, List.drop_zero, List.take_length]
  rw [same_self knL (by omega) (by omega), known_ok]
  rfl
theorem OpsNumbers : ∃ k, law3_OpsNumbers.f k = some true := ⟨_, numbers_ok 70100 (by omega)⟩
theorem within_ok {k : Nat} (hk : 1 ≤ k) {n lo hi : Int} (h1 : lo ≤ hi) (h2 : -1000000000000000000 ≤ lo) (h3 : hi ≤ 1000000000000000000) : ∃ r, book_Within.f k n lo hi = some r ∧ lo ≤ r ∧ r ≤ hi ∧ (lo ≤ n → n ≤ hi → r = n) := by
  obtain ⟨k, rfl⟩ : ∃ j, k = j + 1 := ⟨k - 1, by omega⟩
  simp only [book_Within.f]
  by_cases h : lo ≤ n ∧ n ≤ hi
  · rw [if_pos h.1, if_pos h.2]
    exact ⟨n, rfl, h.1, h.2, fun _ _ => rfl⟩
  · have e : iadd .i64 (isub .i64 hi lo) 1 = hi - lo + 1 := by rw [isub64 (by omega) (by omega), iadd64 (by omega) (by omega)]
    have m0 : irem .i64 n (hi - lo + 1) < hi - lo + 1 := by
      unfold irem; exact Int.tmod_lt_of_pos _ (by omega)
    have m1 : -(hi - lo + 1) < irem .i64 n (hi - lo + 1) := by
      unfold irem; exact Int.lt_tmod_of_pos _ (by omega)
    have q : (if n ≥ lo then (if n ≤ hi then (some (.inr n)) else (some (.inl ()))) else (some (.inl ())) : Option (Unit ⊕ Int)) = some (.inl ()) := by
      by_cases h0 : n ≥ lo
      · rw [if_pos h0, if_neg (by omega)]
      · rw [if_neg h0]
    rw [q, e]
    simp only [segB]
    rw [if_pos (by omega)]
    generalize irem .i64 n (hi - lo + 1) = z at m0 m1
    by_cases hz : z < 0
    · rw [if_pos hz, iadd64 (a := z) (by omega) (by omega), isub64 (by omega) (by omega), iadd64 (a := z + hi - lo) (by omega) (by omega), iadd64 (by omega) (by omega)]
      exact ⟨_, rfl, by omega, by omega, by omega⟩
    · rw [if_neg hz, iadd64 (by omega) (by omega)]
      exact ⟨_, rfl, by omega, by omega, by omega⟩
/-! Pairs -/
def restE (k : Nat) (r99 : Nat) (r100 : List Int) (e104 : Int) : Option Bool := ((ops_Numeric.f k e104).bind fun (r106, r107) => ((ops_Access.f k e104).bind fun (r109, r110, r111, r112) => ((ops_Const.f k e104).bind fun (r114, r115) => (altB (loopS (law3_OpsPairs.b9 k r99 r100) k (1 : Int)) (fun _ => (if roomP (0 + r106.Params.length) 8 then (if roomP (r106.Params.length + r106.Results.length) 8 then (altB (loopS (law3_OpsPairs.b14 k r106) k (0 : Int)) (fun _ => ((ops_Opens.f k e104).bind fun r162 => ((loopS (law3_OpsPairs.b21 k r107 r112 r115 r162) k ((0 : Int), (0 : Int))).bind fun n178 => ((ops_Known.f k e104).bind fun r187 => (if r187 = true then (if n178 ≤ 1 then (if (r107 == (decide ((r106.Results.length : Int) = 1))) = true then (if r109 > 0 then (if (r112 == (!decide (r110 = 0))) = true then (if (r115 == (!decide (r114 = 0))) = true then ((law3_known.f k).bind fun r189 => (some r189)) else (some false)) else (some false)) else (if (r112 == false) = true then (if (r115 == (!decide (r114 = 0))) = true then ((law3_known.f k).bind fun r191 => (some r191)) else (some false)) else (some false))) else (some false)) else (some false)) else (some false)))))) (fun _ => (some false))) else none) else none)) (fun _ => (some false))))))
theorem rest_all (j : Nat) : knN.all (fun e => isT (restE (j + 300) 150 knN e)) = true := by kernel_rfl
theorem pairs_ok (j : Nat) (hj : 70100 ≤ j) (n : Int) : law3_OpsPairs.f ((j + 300) + 1) n = some true := by
  have hl : knN.length = 150 := by decide
  simp only [law3_OpsPairs.f]
  rw [all_ok (by omega), knL_eq]
  simp only [Option.bind_some]
  rw [hl, if_neg (by decide)]
  obtain ⟨r, hr, h0, h1, _⟩ := within_ok (k := j + 300) (by omega) (n := n) (lo := 0) (hi := isub .i64 ((150 : Nat) : Int) 1) (by decide) (by decide) (by decide)
  have h2 : isub .i64 ((150 : Nat) : Int) 1 = 149 := by decide
  rw [hr]
  rw [h2] at h1
  simp only [Option.bind_some]
  rw [if_pos ⟨by omega, by omega⟩, Nat.zero_add, List.getElem?_eq_getElem (by omega)]
  simp only [Option.bind_some]
  have := List.all_eq_true.1 (rest_all j) knN[r.toNat] (List.getElem_mem _)
  exact isT_ok this
/-- The law OpsPairs. -/
theorem OpsPairs {n : Int} (_ : inR .i64 n) : ∃ k, law3_OpsPairs.f k n = some true := ⟨_, pairs_ok 70100 (by omega) n⟩
end Go.R2

/- HostOrder -/
import Derived.Test.YtdghpmnhlhhcnaaGAsk
import Derived.Test.YtdghpmnhlhhcnaaGHIn
set_option linter.all false
namespace Go.R1H
open Go.Ev

def callsN (i : Nat) : List host_Call := (List.range i).map fun (j : Nat) => ⟨(j : Int), []⟩
theorem callsN_len (i : Nat) : (callsN i).length = i := by simp [callsN]
theorem callsN_next (i : Nat) : callsN i ++ [⟨(i : Int), []⟩] = callsN (i + 1) := by simp [callsN, List.range_succ]
def ordSt (L i : Nat) : Int × Nat × Nat × Nat × Nat × List host_Call × List host_Call := ((i : Int), min i L, L - i, min i L, L - i, callsN i, callsN i)
theorem ord_step {k : Nat} (hk : 1000 ≤ k) {n : Int} {l : List host_Answer} {K : Nat} (hK : irem .i64 (iadd .i64 (irem .i64 n 30) 30) 30 = (K : Int)) (hK1 : K < 30) {i : Nat} (hi : i < K) :
    law13_HostOrder.b9 k n l l l (ordSt l.length i) = some (.inl (ordSt l.length (i + 1))) := by
  have hsum : min i l.length + (l.length - i) = l.length := by omega
  have hask := ask2_ok (k := k) (index := (i : Int)) (t := [126]) (s := min i l.length) (n := l.length - i) (ans := l) (c := callsN i) (by rw [callsN_len]; omega) (by simp) hsum (by simp; omega)
  obtain ⟨l1, l2⟩ := askV_left (ans := l) (i := i) [126]
  have hnext : iadd .i64 (i : Int) 1 = ((i + 1 : Nat) : Int) := by rw [iadd64 (by omega) (by omega)]; omega
  simp only [law13_HostOrder.b9, ordSt]
  rw [hK]
  refine if_to (by omega) ?_
  rw [hask, l1, l2, callsN_next]
  generalize hv : askV l (min i l.length) (l.length - i) [126] = v
  obtain ⟨ok, s', n', a⟩ := v
  simp only [Option.bind_some]
  have hlen : a.length ≤ 1 := by
    have : (askV l (min i l.length) (l.length - i) [126]).2.2.2.length ≤ 1 := by
      unfold askV
      split
      · simp [outL]
      · split
        · split
          · simp
          · rw [outL_len]; simp
        · simp
    rw [hv] at this
    exact this
  rw [same_ok a (by omega) (by omega)]
  refine segB_to (o := (min (i + 1) l.length, l.length - (i + 1), min (i + 1) l.length, l.length - (i + 1), callsN (i + 1), callsN (i + 1))) ?_ (by rw [hnext])
  by_cases hlt : i < l.length
  · have hm : min i l.length = i := by omega
    have hv2 := hv
    unfold askV at hv2
    rw [if_neg (by omega), hm, List.getElem?_eq_getElem hlt] at hv2
    simp only at hv2
    by_cases htr : l[i].Trap = true
    · rw [if_pos htr] at hv2
      simp only [Prod.mk.injEq] at hv2
      obtain ⟨rfl, _, _, rfl⟩ := hv2
      refine segB_to (o := ()) ?_ ?_
      · simp only [Option.bind_some, beq_self_eq_true, Bool.not_true, Bool.false_eq_true, if_false]
        rw [if_neg (by omega)]
      · rw [if_pos (by omega), at?_nat, List.getElem?_eq_getElem hlt]
        simp only [Option.bind_some, htr, Bool.not_true, Bool.false_eq_true, if_false]
    · rw [if_neg htr] at hv2
      simp only [Prod.mk.injEq] at hv2
      obtain ⟨rfl, _, _, rfl⟩ := hv2
      have hout : (outL [126] l[i].Values).length = 1 := by rw [outL_len]; rfl
      refine segB_to (o := ()) ?_ ?_
      · simp only [Option.bind_some, beq_self_eq_true, Bool.not_true, Bool.false_eq_true, if_false, if_true]
        rw [if_neg (by omega), if_pos (by omega)]
      · rw [if_pos (by omega), at?_nat, List.getElem?_eq_getElem hlt]
        simp only [Option.bind_some, htr, Bool.not_false, if_true]
        by_cases hv0 : (l[i].Values.length : Int) > 0
        · rw [if_pos hv0, if_pos ⟨by omega, by omega⟩]
          obtain ⟨x, r, hx⟩ : ∃ x r, l[i].Values = x :: r := by
            cases hh : l[i].Values with
            | nil => rw [hh] at hv0; simp at hv0
            | cons x r => exact ⟨x, r, rfl⟩
          rw [hx]
          simp [outL, mask, at?]
        · rw [if_neg hv0]
  · have hv2 := hv
    unfold askV at hv2
    rw [if_pos (by omega)] at hv2
    simp only [Prod.mk.injEq] at hv2
    obtain ⟨rfl, _, _, rfl⟩ := hv2
    refine segB_to (o := ()) ?_ ?_
    · simp only [Option.bind_some, beq_self_eq_true, Bool.not_true, Bool.false_eq_true, if_false, if_true]
      rw [if_pos (by omega)]
      simp [outL]
    · rw [if_neg (by omega)]
theorem HostOrder {l0 : List host_Answer} {n : Int} (h32 : l0.length * 32 ≤ bigN) (hl : ∀ a ∈ l0, host_Answer.wf a) (hn : inR .i64 n) : ∃ k, law13_HostOrder.f k l0 n = some true := by
  refine ⟨2001, ?_⟩
  have cut : ∃ l : List host_Answer, (if (l0.length : Int) > 20 then (if 0 ≤ (20 : Int) ∧ 20 ≤ (l0.length : Int) then (some (.inl (List.take 20 l0))) else none) else (some (.inl l0)) : Option (List host_Answer ⊕ Bool)) = some (.inl l) ∧ l.length ≤ 20 ∧ Ans l := by
    by_cases h : (l0.length : Int) > 20
    · exact ⟨_, by rw [if_pos h, if_pos ⟨by omega, by omega⟩], by rw [List.length_take]; omega, fun a ha => (hl a (List.mem_of_mem_take ha)).1⟩
    · exact ⟨_, by rw [if_neg h], by omega, fun a ha => (hl a ha).1⟩
  obtain ⟨l, hcut, zl, ha⟩ := cut
  obtain ⟨n0, n1⟩ := hn
  obtain ⟨K, hK, hK1⟩ : ∃ K : Nat, irem .i64 (iadd .i64 (irem .i64 n 30) 30) 30 = (K : Int) ∧ K < 30 := by
    have m0 : irem .i64 n 30 < 30 := by unfold irem; exact Int.tmod_lt_of_pos _ (by decide)
    have m1 : -30 < irem .i64 n 30 := by unfold irem; exact Int.lt_tmod_of_pos _ (by decide)
    generalize irem .i64 n 30 = z at m0 m1
    rw [iadd64 (by omega) (by omega), irem_ok (by omega)]
    exact ⟨((z + 30) % 30).toNat, by omega, by omega⟩
  simp only [law13_HostOrder.f]
  refine segB_to hcut ?_
  have hnew := new_ok (k := 2000) (l := l) (by simp only [bigN]; omega) ha (by omega)
  rw [hnew]
  simp only [Option.bind_some]
  have hloop := loopS_count (f := law13_HostOrder.b9 2000 n l l l) (ordSt l.length) K (Sum.inl (min K l.length, l.length - K, callsN K)) (by
    simp only [law13_HostOrder.b9, ordSt]
    rw [hK]
    exact if_not (by omega) rfl) (fun i hi => ord_step (by omega) hK hK1 hi) K 0 2000 (by omega) (by omega)
  have e0 : ordSt l.length 0 = ((0 : Int), 0, l.length, 0, l.length, ([] : List host_Call), ([] : List host_Call)) := by simp [ordSt, callsN]
  rw [e0] at hloop
  rw [hloop]
  simp only [altB]
  rw [calls_ok (fun a ha => by simp only [callsN, List.mem_map] at ha; obtain ⟨j, _, rfl⟩ := ha; simp) (by rw [callsN_len]; omega) (by rw [callsN_len]; omega)]
  simp only [Option.bind_some]
  rw [callsN_len, hK, if_pos rfl, left_ok (by omega)]
  simp only [Option.bind_some]
  have e1 : (List.take (l.length - K) (List.drop (min K l.length) l)).length = l.length - K := by rw [List.length_take, List.length_drop]; omega
  have e2 : imax (isub .i64 (l.length : Int) (K : Int)) 0 = ((l.length - K : Nat) : Int) := by
    rw [isub64 (by omega) (by omega)]; unfold imax; split <;> omega
  rw [e1, e2, if_pos rfl, known_ok (by omega)]
  rfl
end Go.R1H

/- HostPlays -/
import Derived.Test.YtdghpmnhlhhcnaaGHN_Ask
import Derived.Test.YtdghpmnhlhhcnaaGHN_HIn
set_option linter.all false
namespace Go.R1HN
open Go.Ev

theorem rawL_get : ∀ (m : Nat) (vs : List Int) (i : Nat) (h : i < m) (hv : i < vs.length), (rawL m vs)[i]'(by rw [rawL_len]; exact h) = vs[i]
  | m + 1, v :: vs, 0, _, _ => by simp [rawL]
  | m + 1, v :: vs, i + 1, h, hv => by
    simp only [rawL, List.getElem_cons_succ]
    exact rawL_get m vs i (by omega) (by simpa using hv)
theorem rawL_zero : ∀ (m : Nat) (vs : List Int) (i : Nat) (h : i < m) (hv : vs.length ≤ i), (rawL m vs)[i]'(by rw [rawL_len]; exact h) = 0
  | m + 1, [], i, h, _ => by simp [rawL_nil]
  | m + 1, v :: vs, 0, _, hv => by simp at hv
  | m + 1, v :: vs, i + 1, h, hv => by
    simp only [rawL, List.getElem_cons_succ]
    exact rawL_zero m vs i (by omega) (by simpa using hv)
theorem out_end (t vs : List Int) {j : Nat} (hj : j = min t.length vs.length) : (outL t vs).take j ++ (List.replicate t.length (0 : Int)).drop j = outL t vs := by
  apply List.ext_getElem
  · rw [List.length_append, List.length_take, List.length_drop, outL_len, List.length_replicate]; omega
  · intro i h1 h2
    rw [outL_len] at h2
    by_cases hi : i < j
    · rw [List.getElem_append_left (by rw [List.length_take, outL_len]; omega), List.getElem_take]
    · have hlen : ((outL t vs).take j).length = j := by rw [List.length_take, outL_len]; omega
      rw [List.getElem_append_right (by omega)]
      simp only [List.getElem_drop, List.getElem_replicate]
      rw [outL_get t vs i h2, rawL_zero t.length vs i h2 (by omega), mask_zero]
theorem want_loop {k : Nat} {l : List host_Answer} {i : Nat} (hi : i < l.length) {t : List Int} (ht : t.length ≤ 1000) (hk : 2000 ≤ k) : loopS (law13_HostPlays.b18 k l (i : Int) t) k ((0 : Int), List.replicate t.length (0 : Int)) = some (outL t l[i].Values) := by
  have hl : (outL t l[i].Values).length = (List.replicate t.length (0 : Int)).length := by rw [outL_len, List.length_replicate]
  have := loopS_count (f := law13_HostPlays.b18 k l (i : Int) t) (fun j : Nat => ((j : Int), (outL t l[i].Values).take j ++ (List.replicate t.length (0 : Int)).drop j)) (min t.length l[i].Values.length) (outL t l[i].Values) ?_ ?_ (min t.length l[i].Values.length) 0 k (by omega) (by omega)
  · simpa using this
  · have he := out_end t l[i].Values (j := min t.length l[i].Values.length) rfl
    simp only [law13_HostPlays.b18]
    rw [he, outL_len]
    by_cases h : ((min t.length l[i].Values.length : Nat) : Int) < (t.length : Int)
    · rw [if_pos h, at?_nat, List.getElem?_eq_getElem hi]
      simp only [Option.bind_some]
      rw [if_neg (by omega)]
    · rw [if_neg h]
  · intro j hj
    have hjt : j < t.length := by omega
    have hjv : j < l[i].Values.length := by omega
    have hn := ip_len hl j
    rw [List.length_replicate] at hn
    have hg := ip_get hl (i := j) (by rw [List.length_replicate]; omega)
    have hs := ip_set hl (i := j) (by rw [List.length_replicate]; omega)
    have hm := outL_get t l[i].Values j hjt
    rw [rawL_get t.length l[i].Values j hjt hjv] at hm
    simp only [law13_HostPlays.b18]
    have hc : (0 : Int) ≤ (j : Int) ∧ (j : Int) < (t.length : Int) := ⟨by omega, by omega⟩
    simp only [hn, List.length_set, Int.toNat_natCast]
    refine if_to hc.2 ?_
    rw [at?_nat, List.getElem?_eq_getElem hi]
    simp only [Option.bind_some]
    refine if_to (by omega) ?_
    have hget2 : ∀ x : Int, (((outL t l[i].Values).take j ++ (List.replicate t.length (0 : Int)).drop j).set j x)[j]? = some x := fun x => by
      rw [List.getElem?_set_self (by rw [hn]; omega)]
    simp only [at?_nat, List.getElem?_eq_getElem hjv, Option.bind_some, if_pos hc, hg, List.getElem?_eq_getElem hjt, hget2]
    refine segB_to (o := (outL t l[i].Values).take (j + 1) ++ (List.replicate t.length (0 : Int)).drop (j + 1)) ?_ (by rw [iadd64 (by omega) (by omega)]; rfl)
    by_cases h7 : t[j] = 127
    · rw [if_pos h7, List.set_set]
      unfold mask at hm
      rw [if_pos h7] at hm
      rw [← hm, hs]
    · rw [if_neg h7]
      unfold mask at hm
      rw [if_neg h7] at hm
      rw [← hm, hs]
theorem pick_ok (x : Int) : ∃ v : Int, 0 ≤ irem .i64 (iand .i64 x 3) 3 ∧ irem .i64 (iand .i64 x 3) 3 < 3 ∧ ([(127 : Int), (126 : Int), (124 : Int)] : List Int)[(irem .i64 (iand .i64 x 3) 3).toNat]? = some v := by
  have e : iand .i64 x 3 = x % 4 := iand_mask (j := 2) (by decide) (by decide)
  rw [e, irem_ok (by omega)]
  have h0 : 0 ≤ x % 4 % 3 := by omega
  have h1 : x % 4 % 3 < 3 := by omega
  generalize x % 4 % 3 = y at h0 h1
  have : y = 0 ∨ y = 1 ∨ y = 2 := by omega
  rcases this with rfl | rfl | rfl <;> exact ⟨_, by omega, by omega, rfl⟩
theorem type_loop {k : Nat} {asks : List plainsonglaw13_Ask} {i : Nat} (hi : i < asks.length) : ∀ (d j m : Nat) (h : List Int), j + d = 6 → h.length = j → d < m → ∃ t, loopS (law13_HostPlays.b9 k asks (i : Int)) m ((j : Int), h) = some t ∧ t.length ≤ 6
  | 0, j, m, h, hj, hh, hm => by
    obtain ⟨m, rfl⟩ : ∃ q, m = q + 1 := ⟨m - 1, by omega⟩
    refine ⟨h, loopS_last ?_, by omega⟩
    simp only [law13_HostPlays.b9]
    rw [at?_nat, List.getElem?_eq_getElem hi]
    simp only [Option.bind_some]
    split
    · rw [if_neg (by omega)]
    · rfl
  | d + 1, j, m, h, hj, hh, hm => by
    obtain ⟨m, rfl⟩ : ∃ q, m = q + 1 := ⟨m - 1, by omega⟩
    by_cases hlt : (j : Int) < (asks[i].T.length : Int)
    · have hlt' : j < asks[i].T.length := by omega
      obtain ⟨v, v0, v1, v2⟩ := pick_ok (asks[i].T[j])
      have step : law13_HostPlays.b9 k asks (i : Int) ((j : Int), h) = some (.inl (((j + 1 : Nat) : Int), h ++ [v])) := by
        simp only [law13_HostPlays.b9]
        rw [at?_nat, List.getElem?_eq_getElem hi]
        simp only [Option.bind_some]
        rw [if_pos hlt, if_pos (by omega), at?_nat, List.getElem?_eq_getElem hlt']
        simp only [Option.bind_some]
        rw [if_pos ⟨v0, v1⟩, v2]
        simp only [Option.bind_some]
        rw [if_pos (room_small (by omega) (by omega)), iadd64 (by omega) (by omega)]
        rfl
      rw [loopS_next step]
      exact type_loop hi d (j + 1) m _ (by omega) (by simp [hh]) (by omega)
    · refine ⟨h, loopS_last ?_, by omega⟩
      simp only [law13_HostPlays.b9]
      rw [at?_nat, List.getElem?_eq_getElem hi]
      simp only [Option.bind_some]
      rw [if_neg hlt]
def callOf (a : plainsonglaw13_Ask) : host_Call := ⟨a.Index, a.Args⟩
def playSt (L : Nat) (asks : List plainsonglaw13_Ask) (i : Nat) : Int × Nat × Nat × List host_Call := ((i : Int), min i L, L - i, (asks.take i).map callOf)
theorem play_step {k : Nat} (hk : 1000000000000000 ≤ k) {l : List host_Answer} {asks : List plainsonglaw13_Ask} (hl : l.length ≤ 1000000000000000) (ha : ∀ a ∈ asks, a.Args.length * 8 ≤ bigN) {i : Nat} (hi : i < asks.length) (hi40 : i < 40) :
    law13_HostPlays.b3 k l asks l (playSt l.length asks i) = some (.inl (playSt l.length asks (i + 1))) := by
  obtain ⟨t, ht, ht6⟩ := type_loop (k := k) hi 6 0 k [] (by omega) rfl (by omega)
  have hsum : min i l.length + (l.length - i) = l.length := by omega
  have hcl : ((asks.take i).map callOf).length = i := by rw [List.length_map, List.length_take]; omega
  have harg := ha _ (List.getElem_mem hi)
  have hask := ask_ok (k := k) (index := asks[i].Index) (args := asks[i].Args) (t := t) (s := min i l.length) (n := l.length - i) (ans := l) (c := (asks.take i).map callOf) harg (by omega) (by omega) hsum (by omega)
  obtain ⟨l1, l2⟩ := askV_left (ans := l) (i := i) t
  have hnext : iadd .i64 (i : Int) 1 = ((i + 1 : Nat) : Int) := by rw [iadd64 (by omega) (by omega)]; omega
  have hc1 : (asks.take i).map callOf ++ [⟨asks[i].Index, asks[i].Args⟩] = (asks.take (i + 1)).map callOf := by
    rw [List.take_succ_eq_append_getElem hi, List.map_append]; rfl
  have hcl1 : ((asks.take (i + 1)).map callOf).length = i + 1 := by rw [List.length_map, List.length_take]; omega
  have hlast : ((asks.take (i + 1)).map callOf)[i]? = some ⟨asks[i].Index, asks[i].Args⟩ := by
    rw [List.getElem?_map, List.getElem?_take, if_pos (by omega), List.getElem?_eq_getElem hi]; rfl
  simp only [law13_HostPlays.b3, playSt]
  refine if_to (by omega) (if_to (by omega) ?_)
  rw [show ((0 : Nat) : Int) = (0 : Int) from rfl] at ht
  rw [ht]
  simp only [Option.bind_some]
  rw [at?_nat, List.getElem?_eq_getElem hi]
  simp only [Option.bind_some]
  rw [hask, l1, l2, hc1]
  generalize hv : askV l (min i l.length) (l.length - i) t = v
  obtain ⟨ok, s', n', a⟩ := v
  simp only [Option.bind_some]
  refine if_to ⟨by omega, by omega, room_small (by omega) (by omega)⟩ ?_
  simp only [Int.toNat_natCast]
  have leftl : (List.take (l.length - (i + 1)) (List.drop (min (i + 1) l.length) l)).length = l.length - (i + 1) := by rw [List.length_take, List.length_drop]; omega
  have left2 : host_Host_Left.f k (host_Host.mk (List.take (l.length - (i + 1)) (List.drop (min (i + 1) l.length) l)) ((asks.take (i + 1)).map callOf)) = some ((l.length - (i + 1) : Nat) : Int) := by
    rw [left_ok (by omega)]; simp only; rw [leftl]
  have imx := imax_left (n := l.length) (i := i) hl (by omega)
  have tail : ((host_Host_Calls.f k (min (i + 1) l.length) (l.length - (i + 1)) l ((asks.take (i + 1)).map callOf)).bind fun r3466 => (if (r3466.length : Int) = (iadd .i64 (i : Int) 1) then (if (0 : Int) ≤ (i : Int) ∧ (i : Int) < (r3466.length : Int) then (r3466[i]?.bind fun e3468 => (if e3468.Index = asks[i].Index then (if (0 : Int) ≤ (i : Int) ∧ (i : Int) < (r3466.length : Int) then (r3466[i]?.bind fun e3472 => ((law13_same.f k e3472.Args asks[i].Args).bind fun r3476 => (if (!r3476) = true then (some (.inr (.inr (min (i + 1) l.length, l.length - (i + 1), (asks.take (i + 1)).map callOf)))) else (some (.inl ((iadd .i64 (i : Int) 1), min (i + 1) l.length, l.length - (i + 1), (asks.take (i + 1)).map callOf)))))) else none) else (some (.inr (.inr (min (i + 1) l.length, l.length - (i + 1), (asks.take (i + 1)).map callOf)))))) else none) else (some (.inr (.inr (min (i + 1) l.length, l.length - (i + 1), (asks.take (i + 1)).map callOf))))) : Option ((Int × Nat × Nat × List host_Call) ⊕ ((Nat × Nat × List host_Call) ⊕ (Nat × Nat × List host_Call)))) = some (.inl (((i + 1 : Nat) : Int), min (i + 1) l.length, l.length - (i + 1), (asks.take (i + 1)).map callOf)) := by
    rw [calls_ok (fun c hc => by
      obtain ⟨a, ha1, rfl⟩ := List.mem_map.1 hc
      exact ha a (List.mem_of_mem_take ha1)) (by omega) (by omega)]
    simp only [Option.bind_some]
    rw [hcl1, hnext]
    refine if_to rfl (if_to ⟨by omega, by omega⟩ ?_)
    rw [hlast]
    simp only [Option.bind_some, if_true]
    refine if_to ⟨by omega, by omega⟩ ?_
    rw [same_ok _ (by simp only [bigN] at harg; omega) (by simp only [bigN] at harg; omega)]
    simp
  have hv2 := hv
  unfold askV at hv2
  by_cases hlt : i < l.length
  · have hm : min i l.length = i := by omega
    rw [if_neg (by omega), hm, List.getElem?_eq_getElem hlt] at hv2
    simp only at hv2
    refine segB_to (o := (l[i].Trap, outL t l[i].Values)) ?_ ?_
    · refine if_to (by omega) ?_
      rw [at?_nat, List.getElem?_eq_getElem hlt, want_loop hlt (by omega) (by omega)]
      rfl
    · by_cases htr : l[i].Trap = true
      · rw [if_pos htr] at hv2
        simp only [Prod.mk.injEq] at hv2
        obtain ⟨rfl, _, _, rfl⟩ := hv2
        refine segB_to (o := ()) ?_ tail
        rw [htr, left2]
        simp [imx]
      · rw [if_neg htr] at hv2
        simp only [Prod.mk.injEq] at hv2
        obtain ⟨rfl, _, _, rfl⟩ := hv2
        have hf : l[i].Trap = false := by simpa using htr
        refine segB_to (o := ()) ?_ tail
        rw [hf, left2, same_ok _ (by rw [outL_len]; omega) (by rw [outL_len]; omega)]
        simp [imx]
  · rw [if_pos (by omega)] at hv2
    simp only [Prod.mk.injEq] at hv2
    obtain ⟨rfl, _, _, rfl⟩ := hv2
    refine segB_to (o := (false, List.replicate t.length 0)) (if_not (by omega) rfl) ?_
    refine segB_to (o := ()) ?_ tail
    have hout : outL t [] = List.replicate t.length 0 := by
      rw [← out_end t [] (j := 0) (by simp)]; simp
    rw [hout, left2, same_ok _ (by rw [List.length_replicate]; omega) (by rw [List.length_replicate]; omega)]
    simp [imx]
theorem HostPlays {l : List host_Answer} {asks : List plainsonglaw13_Ask} (h32 : l.length * 32 ≤ bigN) (hl : ∀ a ∈ l, host_Answer.wf a) (_ : asks.length * 56 ≤ bigN) (ha : ∀ a ∈ asks, plainsonglaw13_Ask.wf a) : law13_HostPlays.f 1000000000000001 l asks = some true := by
  simp only [bigN] at h32
  simp only [law13_HostPlays.f]
  rw [new_ok (by simp only [bigN]; omega) (fun a ha => (hl a ha).1) (by omega)]
  simp only [Option.bind_some]
  have hloop := loopS_count (f := law13_HostPlays.b3 1000000000000000 l asks l) (playSt l.length asks) (min asks.length 40) (Sum.inl (min (min asks.length 40) l.length, l.length - min asks.length 40, (asks.take (min asks.length 40)).map callOf)) (by
    simp only [law13_HostPlays.b3, playSt]
    by_cases h : ((min asks.length 40 : Nat) : Int) < (asks.length : Int)
    · exact if_to h (if_not (by omega) rfl)
    · exact if_not h rfl) (fun i hi => play_step (by omega) (by omega) (fun a h => (ha a h).2.1) (by omega) (by omega)) (min asks.length 40) 0 1000000000000000 (by omega) (by omega)
  have e0 : playSt l.length asks 0 = ((0 : Int), 0, l.length, ([] : List host_Call)) := by simp [playSt]
  rw [e0] at hloop
  rw [hloop]
  simp only [altB]
  rw [known_ok (by omega)]
  rfl
end Go.R1HN

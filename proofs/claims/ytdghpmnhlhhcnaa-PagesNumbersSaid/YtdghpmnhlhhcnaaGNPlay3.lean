/- Pages: what comes in; do, play, the law. -/
import Derived.Test.YtdghpmnhlhhcnaaGNPlay2
import Derived.Test.YtdghpmnhlhhcnaaEvIn
set_option linter.all false
namespace Go.R1N
open Go.Proofs Go.Ev
set_option maxRecDepth 100000
def plainsonglaw12_Ask.wf (x : plainsonglaw12_Ask) : Prop := inR .i64 x.Kind ∧ inR .i64 x.N ∧ inR .u64 x.At ∧ inR .u64 x.Src ∧ inR .u64 x.V ∧ x.B.length * 1 ≤ bigN ∧ (∀ y ∈ x.B, inR .u8 y)
theorem plainsonglaw12_Ask.dec {n : Nat} {cs : List FV} (h : Fits Try.prog (n + 8) 64 cs) : ∃ x : plainsonglaw12_Ask, cs = x.e ∧ x.wf := by
  obtain ⟨parts, rfl, hl, hp⟩ := Fits.struct (n := n + 7) Try.underlying64 h
  match parts, hl with
  | [p0, p1, p2, p3, p4, p5], _ =>
    have h0 := hp 0 _ p0 rfl rfl
    obtain ⟨x0, rfl, w0⟩ := Fits.int (n := n + 6) Try.underlying3 h0
    have h1 := hp 1 _ p1 rfl rfl
    obtain ⟨x1, rfl, w1⟩ := Fits.int (n := n + 6) Try.underlying3 h1
    have h2 := hp 2 _ p2 rfl rfl
    obtain ⟨x2, rfl, w2⟩ := Fits.int (n := n + 6) Try.underlying27 h2
    have h3 := hp 3 _ p3 rfl rfl
    obtain ⟨x3, rfl, w3⟩ := Fits.int (n := n + 6) Try.underlying27 h3
    have h4 := hp 4 _ p4 rfl rfl
    obtain ⟨x4, rfl, w4⟩ := Fits.int (n := n + 6) Try.underlying27 h4
    have h5 := hp 5 _ p5 rfl rfl
    obtain ⟨x5, rfl, z5, w5⟩ := (Fits.slice (n := n + 6) (sz := 1) (by_ := 1) Try.underlying46 (by kernel_rfl) (by kernel_rfl) (fun _ h => Fits.int Try.underlying5 h)) h5
    exact ⟨⟨x0, x1, x2, x3, x4, x5⟩, rfl, w0, w1, w2, w3, w4, z5, w5⟩
theorem do_both (k : Nat) {a : plainsonglaw12_Ask} {M O : Int} {b o : List Int} (h : Inv M b) (ho : Inv O o) (hat : 0 ≤ a.At) (hsrc : 0 ≤ a.Src) (hv : 0 ≤ a.V) (hB : By a.B) (hBl : a.B.length ≤ 9000000000000000000) (hk : 700000 ≤ k) :
    ∃ b', law12_do.f (k + 3) a M O M O b o b o = some (true, b', b') ∧ Inv M b' := by
  have fin : ∀ {b' : List Int}, Inv M b' → ((pages_Memory_Pages.f (k + 2) (pages_Memory.mk b' M)).bind fun r201 => ((ref12_Memory_Pages.f (k + 2) (plainsongref12_Memory.mk b' M)).bind fun r203 => (if r201 = r203 then ((pages_Memory_Max.f (k + 2) (pages_Memory.mk b' M)).bind fun r205 => (some ((decide (r205 = M)), b', b'))) else (some (false, b', b'))))) = some (true, b', b') := by
    intro b' hb
    have hp := pages_ok (k + 1) (M := M) hb.small
    refine bindO hp ?_
    rw [pages_same]
    refine bindO hp ?_
    rw [if_pos rfl]
    refine bindO (o := M) rfl ?_
    rw [decide_eq_true rfl]
  simp only [law12_do.f]
  by_cases k0 : a.Kind = 0
  · obtain ⟨r, b', e1, e2, hi⟩ := grow_both k (n := a.N) h
    refine ⟨b', segB_to (o := (b', b')) ?_ (fin hi), hi⟩
    rw [if_pos k0]
    refine bindO e1 ?_
    refine bindO e2 ?_
    dsimp only
    rw [if_pos rfl]
  by_cases k1 : a.Kind = 1
  · obtain ⟨r, e1, e2⟩ := load_both k (at_ := a.At) (n := a.N) h hat (by omega)
    refine ⟨b, segB_to (o := (b, b)) ?_ (fin h), h⟩
    rw [if_neg k0, if_pos k1]
    refine bindO e1 ?_
    refine bindO e2 ?_
    rw [if_pos rfl]
    simp
  by_cases k4 : a.Kind = 4
  · have e8 : icv .u8 a.V = a.V % 256 := icv8 _
    obtain ⟨r, b', e1, e2, hi⟩ := fill_both k (at_ := a.At) (v := a.V % 256) (n := a.Src) h hat hsrc (by omega) (by omega) hk
    refine ⟨b', segB_to (o := (b', b')) ?_ (fin hi), hi⟩
    rw [if_neg k0, if_neg k1, if_pos k4, e8]
    refine bindO e1 ?_
    refine bindO e2 ?_
    dsimp only
    simp
  by_cases k5 : a.Kind = 5
  · have hB' : ∃ B : List Int, By B ∧ B.length ≤ 9000000000000000000 ∧ (if (a.B.length : Int) > 50 then (if 0 ≤ (50 : Int) ∧ 50 ≤ (a.B.length : Int) then (some (.inl (List.take 50 a.B))) else none) else (some (.inl a.B)) : Option (List Int ⊕ ((List Int × List Int) ⊕ (Bool × List Int × List Int)))) = some (.inl B) := by
      by_cases h : (a.B.length : Int) > 50
      · exact ⟨List.take 50 a.B, by_take hB 50, by simp; omega, by rw [if_pos h, if_pos ⟨by decide, by omega⟩]⟩
      · exact ⟨a.B, hB, hBl, by rw [if_neg h]⟩
    obtain ⟨B, hBB, hBB2, e0⟩ := hB'
    obtain ⟨r, b', e1, hi⟩ := put_ok k (at_ := a.At) (l := B) h hat hBB hBB2
    refine ⟨b', segB_to (o := (b', b')) ?_ (fin hi), hi⟩
    rw [if_neg k0, if_neg k1, if_neg k4, if_pos k5]
    refine segB_to e0 ?_
    refine bindO e1 ?_
    rw [put_same]
    refine bindO e1 ?_
    dsimp only
    simp
  by_cases k6 : a.Kind = 6
  · obtain ⟨r, b', e1, e2, hi⟩ := copy2_both k (at_ := a.At) (src := a.Src) (n := a.V) h h hat hsrc hv
    refine ⟨b', segB_to (o := (b', b')) ?_ (fin hi), hi⟩
    rw [if_neg k0, if_neg k1, if_neg k4, if_neg k5, if_pos k6, copy_same, copy_same2]
    refine bindO e1 ?_
    refine bindO e2 ?_
    dsimp only
    simp
  by_cases k7 : a.Kind = 7
  · obtain ⟨r, b', e1, e2, hi⟩ := copy2_both k (at_ := a.At) (src := a.Src) (n := a.V) h ho hat hsrc hv
    refine ⟨b', segB_to (o := (b', b')) ?_ (fin hi), hi⟩
    rw [if_neg k0, if_neg k1, if_neg k4, if_neg k5, if_neg k6, if_pos k7]
    refine bindO e1 ?_
    refine bindO e2 ?_
    dsimp only
    simp
  · obtain ⟨r, b', e1, e2, hi⟩ := store_both k (at_ := a.At) (n := a.N) (v := a.V) h hat (by omega)
    refine ⟨b', segB_to (o := (b', b')) ?_ (fin hi), hi⟩
    rw [if_neg k0, if_neg k1, if_neg k4, if_neg k5, if_neg k6, if_neg k7]
    refine bindO e1 ?_
    refine bindO e2 ?_
    dsimp only
    simp
theorem within_ok {k : Nat} (hk : 1 ≤ k) {n lo hi : Int} (h1 : lo ≤ hi) (h2 : -1000000000000000000 ≤ lo) (h3 : hi ≤ 1000000000000000000) : ∃ r, book_Within.f k n lo hi = some r ∧ lo ≤ r ∧ r ≤ hi := by
  obtain ⟨k, rfl⟩ : ∃ j, k = j + 1 := ⟨k - 1, by omega⟩
  simp only [book_Within.f]
  by_cases h : lo ≤ n ∧ n ≤ hi
  · rw [if_pos h.1, if_pos h.2]
    exact ⟨n, rfl, h.1, h.2⟩
  · have e : iadd .i64 (isub .i64 hi lo) 1 = hi - lo + 1 := by rw [isub64 (by omega) (by omega), iadd64 (by omega) (by omega)]
    have m0 : irem .i64 n (hi - lo + 1) < hi - lo + 1 := by
      unfold irem; exact Int.tmod_lt_of_pos _ (by omega)
    have m1 : -(hi - lo + 1) < irem .i64 n (hi - lo + 1) := by
      unfold irem; exact Int.lt_tmod_of_pos _ (by omega)
    have q : (if n ≥ lo then (if n ≤ hi then (some (.inr n)) else (some (.inl ()))) else (some (.inl ())) : Option (Unit ⊕ Int)) = some (.inl ()) := by
      by_cases h0 : n ≥ lo
      · rw [if_pos h0, if_neg (by omega)]
      · rw [if_neg h0]
    rw [q, e]
    simp only [segB]
    rw [if_pos (by omega)]
    generalize irem .i64 n (hi - lo + 1) = z at m0 m1
    by_cases hz : z < 0
    · rw [if_pos hz, iadd64 (a := z) (by omega) (by omega), isub64 (by omega) (by omega), iadd64 (a := z + hi - lo) (by omega) (by omega), iadd64 (by omega) (by omega)]
      exact ⟨_, rfl, by omega, by omega⟩
    · rw [if_neg hz, iadd64 (by omega) (by omega)]
      exact ⟨_, rfl, by omega, by omega⟩
/-- What a round asks for. -/
theorem ask_near (k : Nat) (near : Bool) {e : plainsonglaw12_Ask} (he : e.wf) :
    ∃ n at_ src v : Int, (if near = true then ((book_Within.f (k + 1) e.N (0 : Int) (5 : Int)).bind fun r404 => (if (0 : Int) ≤ r404 ∧ r404 < (6 : Int) then (([(1 : Int), (2 : Int), (4 : Int), (8 : Int), (3 : Int), (0 : Int)] : List Int)[(r404).toNat]?.bind fun e406 => (if e.Kind = 0 then (some (.inl ((iand .i64 e406 1), (irem .u64 e.At 3100), (irem .u64 e.Src 1100), (irem .u64 e.V 1100)))) else (some (.inl (e406, (irem .u64 e.At 3100), (irem .u64 e.Src 1100), (irem .u64 e.V 1100)))))) else none)) else (some (.inl (e.N, e.At, e.Src, e.V))) : Option ((Int × Int × Int × Int) ⊕ ((Int × List Int × List Int) ⊕ ((List Int × List Int) ⊕ (List Int × List Int))))) = some (.inl (n, at_, src, v)) ∧ 0 ≤ at_ ∧ 0 ≤ src ∧ 0 ≤ v := by
  obtain ⟨_, _, h1, h2, h3, _, _⟩ := he
  cases near with
  | false => exact ⟨_, _, _, _, by rw [if_neg (by decide)], h1.1, h2.1, h3.1⟩
  | true =>
    obtain ⟨r, hr, r0, r1⟩ := within_ok (k := k + 1) (by omega) (n := e.N) (lo := 0) (hi := 5) (by decide) (by decide) (by decide)
    have a1 : 0 ≤ irem .u64 e.At 3100 := by rw [irem_ok h1.1]; exact Int.emod_nonneg _ (by decide)
    have a2 : 0 ≤ irem .u64 e.Src 1100 := by rw [irem_ok h2.1]; exact Int.emod_nonneg _ (by decide)
    have a3 : 0 ≤ irem .u64 e.V 1100 := by rw [irem_ok h3.1]; exact Int.emod_nonneg _ (by decide)
    have hg : ∃ w, ([(1 : Int), (2 : Int), (4 : Int), (8 : Int), (3 : Int), (0 : Int)] : List Int)[r.toNat]? = some w := ⟨_, List.getElem?_eq_getElem (show r.toNat < 6 by omega)⟩
    obtain ⟨w, hw⟩ := hg
    by_cases k0 : e.Kind = 0
    · exact ⟨_, _, _, _, by rw [if_pos rfl, hr, Option.bind_some, if_pos ⟨r0, by omega⟩, hw, Option.bind_some, if_pos k0], a1, a2, a3⟩
    · exact ⟨_, _, _, _, by rw [if_pos rfl, hr, Option.bind_some, if_pos ⟨r0, by omega⟩, hw, Option.bind_some, if_neg k0], a1, a2, a3⟩
theorem play_loop (k : Nat) {l : List plainsonglaw12_Ask} (hl : l.length ≤ 1000000000000000000) (hw : ∀ e ∈ l, e.wf) {near : Bool} {M O : Int} {o : List Int} (ho : Inv O o) (hk : 700000 ≤ k) :
    ∀ (d i : Nat) (b : List Int), i + d = 60 → Inv M b → ∀ q, d < q → ∃ b', Inv M b' ∧ loopS (law12_play_1.b8_2 (k + 3) l near M O M O o o) q ((i : Int), b, b) = some (.inl (b', b'))
  | d, i, b, hi, h, 0, hq => by omega
  | 0, i, b, hi, h, q + 1, hq => by
    refine ⟨b, h, loopS_last ?_⟩
    simp only [law12_play_1.b8_2]
    by_cases c : (i : Int) < (l.length : Int)
    · rw [if_pos c, if_neg (by omega)]
    · rw [if_neg c]
  | d + 1, i, b, hi, h, q + 1, hq => by
    by_cases c : (i : Int) < (l.length : Int)
    · have c' : i < l.length := by omega
      have we := hw l[i] (List.getElem_mem _)
      obtain ⟨n, at_, src, v, e1, p1, p2, p3⟩ := ask_near (k + 2) near we
      have hB : By l[i].B := fun y hy => we.2.2.2.2.2.2 y hy
      have hBl : l[i].B.length ≤ 9000000000000000000 := by have := we.2.2.2.2.2.1; simp only [bigN] at this; omega
      obtain ⟨b', e2, hi'⟩ := do_both k (a := ⟨l[i].Kind, n, at_, src, v, l[i].B⟩) h ho p1 p2 p3 hB hBl hk
      obtain ⟨b'', hi'', e3⟩ := play_loop k hl hw ho hk d (i + 1) b' (by omega) hi' q (by omega)
      refine ⟨b'', hi'', ?_⟩
      rw [loopS_next (v' := (((i + 1 : Nat) : Int), b', b')) ?_]
      · exact e3
      · simp only [law12_play_1.b8_2]
        rw [if_pos c, if_pos (by omega)]
        refine bindO (o := l[i]) (by rw [at?_nat]; exact List.getElem?_eq_getElem c') ?_
        refine segB_to e1 ?_
        dsimp only
        refine bindO e2 ?_
        dsimp only
        rw [if_neg (by decide), iadd64 (by omega) (by omega)]
        rfl
    · refine ⟨b, h, loopS_last ?_⟩
      simp only [law12_play_1.b8_2]
      rw [if_neg c]
theorem new_same : ∀ (k : Nat) (a b : Int), ref12_New.f k a b = pages_New.f k a b
  | 0, _, _ => rfl
  | _ + 1, _, _ => rfl
theorem new_cases (k : Nat) (mn mx : Int) : pages_New.f (k + 1) mn mx = some (.inl ()) ∨ ∃ b, pages_New.f (k + 1) mn mx = some (.inr (mx, b)) ∧ Inv mx b := by
  simp only [pages_New.f]
  by_cases h1 : mn < 0
  · exact Or.inl (by rw [if_pos h1])
  by_cases h2 : mn > mx
  · exact Or.inl (by rw [if_neg h1, if_pos h2])
  by_cases h3 : mx > 512
  · exact Or.inl (by rw [if_neg h1, if_neg h2, if_pos h3])
  · have e : imul .i64 mn 1024 = mn * 1024 := imul64 (by omega) (by omega)
    refine Or.inr ⟨List.replicate ((mn * 1024).toNat) 0, ?_, ?_, by omega, By.zeros _⟩
    · rw [if_neg h1, if_neg h2, if_neg h3, e, if_pos ⟨by omega, by omega, room_small (by omega) (by omega)⟩]
    · simp only [List.length_replicate]; omega
theorem new_one (k : Nat) : ∃ b, pages_New.f (k + 1) 1 1 = some (.inr (1, b)) ∧ Inv 1 b := by
  rcases new_cases k 1 1 with h | h
  · simp [pages_New.f] at h
  · exact h
theorem bytes_ok (k : Nat) {b : List Int} {M : Int} (h : Inv M b) : pages_Memory_Bytes.f (k + 2) M b = some () := by
  simp only [pages_Memory_Bytes.f]
  have := h.small
  rw [tick_ok (room_small (by omega) (by omega)) (by omega)]
  rfl
theorem by_other : By [(116 : Int), (104 : Int), (101 : Int), (32 : Int), (111 : Int), (116 : Int), (104 : Int), (101 : Int), (114 : Int), (32 : Int), (109 : Int), (101 : Int), (109 : Int), (111 : Int), (114 : Int), (121 : Int)] := by unfold By; decide
theorem play_ok (k : Nat) {mn mx : Int} {l : List plainsonglaw12_Ask} (hl : l.length ≤ 1000000000000000000) (hw : ∀ e ∈ l, e.wf) {near : Bool} (hk : 800000 ≤ k) : law12_play_1.f (k + 5) mn mx l near = some true := by
  obtain ⟨o0, eo, io0⟩ := new_one (k + 3)
  obtain ⟨r, o, ep, io⟩ := put_ok (k + 2) (at_ := 0) io0 (by decide) by_other (by decide)
  simp only [law12_play_1.f, new_same, put_same0, put_same1]
  rcases new_cases (k + 3) mn mx with h | ⟨b, h, hi⟩
  · refine altB_l h ?_
    refine altB_r eo ?_
    refine altB_l h ?_
    refine altB_r eo ?_
    dsimp only
    refine bindO ep ?_
    refine bindO ep ?_
    refine bindO (o := ()) (loopS_last ?_) rfl
    simp only [law12_play_1.b8]
    split <;> rfl
  · refine altB_r h ?_
    refine altB_r eo ?_
    refine altB_r h ?_
    refine altB_r eo ?_
    dsimp only
    refine bindO ep ?_
    refine bindO ep ?_
    dsimp only
    obtain ⟨b', hi', e3⟩ := play_loop (k + 1) hl hw (near := near) io (by omega) 60 0 b (by omega) hi (k + 4) (by omega)
    refine altB_l e3 ?_
    dsimp only
    refine bindO (bytes_ok (k + 2) hi') ?_
    rw [strEq_self]
theorem play1_ok (k : Nat) {mn mx : Int} {near : Bool} (hk : 800000 ≤ k) : law12_play.f (k + 5) mn mx near = some true := by
  obtain ⟨o0, eo, io0⟩ := new_one (k + 3)
  obtain ⟨r, o, ep, io⟩ := put_ok (k + 2) (at_ := 0) io0 (by decide) by_other (by decide)
  simp only [law12_play.f, new_same, put_same0, put_same1]
  rcases new_cases (k + 3) mn mx with h | ⟨b, h, hi⟩
  · refine altB_l h ?_
    refine altB_r eo ?_
    refine altB_l h ?_
    refine altB_r eo ?_
    dsimp only
    refine bindO ep ?_
    refine bindO ep ?_
    refine bindO (o := ()) (loopS_last rfl) rfl
  · refine altB_r h ?_
    refine altB_r eo ?_
    refine altB_r h ?_
    refine altB_r eo ?_
    dsimp only
    refine bindO ep ?_
    refine bindO ep ?_
    refine bindO (o := ()) (loopS_last rfl) ?_
    refine bindO (bytes_ok (k + 2) hi) ?_
    rw [strEq_self]
end Go.R1N

import Derived.Test.YtganajogkdinaaaGreatGAlike2K
set_option linter.all false
namespace Go.R4
open Go.Proofs Go.Ev
set_option maxRecDepth 100000
theorem mwithin_wp (n m : Int) : Wp (fun k => module_within.f k n m) (· = decide (0 ≤ n ∧ n < m)) := by
 refine .succ ?_
 simp only [module_within.f]
 refine .ite (fun h => .one ?_) (fun h => .one ?_)
 ·by_cases h2 : n < m
  ·rw [decide_eq_true h2, decide_eq_true ⟨by omega, h2⟩]
  ·rw [decide_eq_false h2, decide_eq_false (fun q => h2 q.2)]
 ·rw [decide_eq_false (fun q => h (by omega))]
theorem tick_wp {n b : Nat} (h : roomP n b) : Wp (fun k => tick n b k) (fun _ => True) := .at_ (a := ()) 1 (fun _ hk => tick_ok h hk) trivial
theorem bN : bigN = 140737488351232 := rfl
theorem own_wp {t : AType} (h1 : t.Params.length * 8 ≤ bigN) (h2 : t.Results.length * 8 ≤ bigN) : Wp (fun k => module_own.f k t) (· = t) := by
 have := bN
 refine .succ ?_
 simp only [module_own.f]
 exact .bind (tick_wp (room_small (by omega) (by omega))) (fun _ _ => .bind (tick_wp (room_small (by omega) (by omega))) (fun _ _ => .one rfl))
theorem eq_loop {β : Type} [DecidableEq β] (a b : List β) (hl : a.length = b.length) (hb : a.length ≤ 4000000000000000000) :
  Wp (fun k => loopS (fun i : Int => if i < (a.length : Int) then ((at? a i).bind fun x => ((at? b i).bind fun y => (if x = y then (some (.inl (iadd .i64 i 1))) else (some (.inr (.inr ())))))) else (some (.inr (.inl ())) : Option (Int ⊕ (Unit ⊕ Unit)))) k (0 : Int))
   (Either (fun _ => a = b) (fun _ => a ≠ b)) := by
 refine .loop (fun (n : Nat) (i : Int) => 0 ≤ i ∧ i + (n : Int) = a.length ∧ a.take i.toNat = b.take i.toNat) (fun n i hi => ?_) (n := a.length) ⟨by omega, by omega, by simp⟩
 obtain ⟨h1, h2, h3⟩ := hi
 refine .ite (fun hlt => ?_) (fun hge => .right ?_)
 ·refine .bind (.idx h1 hlt) (fun x hx => .bind (.idx h1 (by omega)) (fun y hy => .ite (fun he => ?_) (fun he => .right ?_)))
  ·subst he
   refine .left ⟨n - 1, by omega, ?_⟩
   rw [iadd64 (by omega) (by omega)]
   refine ⟨by omega, by omega, ?_⟩
   rw [show (i + 1).toNat = i.toNat + 1 from by omega, List.take_add_one, List.take_add_one, h3, hx, hy]
  ·intro hab
   subst hab
   rw [hx] at hy
   exact he (Option.some.inj hy)
 ·rw [List.take_of_length_le (by omega), List.take_of_length_le (by omega)] at h3
  exact h3
theorem bsame_wp (a b : List Int) (hb : a.length ≤ 4000000000000000000) : Wp (fun k => book_Same_23.f k a b) (· = decide (a = b)) := by
 refine .succ ?_
 simp only [book_Same_23.f]
 refine .ite (fun h => ?_) (fun h => .one ?_)
 ·refine .alt (eq_loop a b (by omega) hb) (fun _ h => .one ?_) (fun _ h => .one ?_)
  ·exact (decide_eq_true h).symm
  ·exact (decide_eq_false h).symm
 ·rw [decide_eq_false]; intro e; subst e; exact h rfl
theorem known6 (j : Nat) : law6_known.f (j + 60) = some true := by kernel_rfl
theorem known6_wp : Wp (fun k => law6_known.f k) (· = true) := by
 refine .at_ 60 (fun k hk => ?_) rfl
 obtain ⟨k, rfl⟩ : ∃ j, k = j + 60 := ⟨k - 60, by omega⟩
 exact known6 k
theorem grow_wp {n : Int} (h0 : 0 ≤ n) (h1 : n * 8 ≤ 140737488355328) : Wp (fun k => Grow_176.f k n) (fun r => r.1 = 0 ∧ (r.2.length : Int) = n) := by
 refine .succ ?_
 simp only [Grow_176.f]
 refine .neg (by omega) ?_
 rw [isub64 (by omega) (by omega), Int.sub_zero]
 refine .ite (fun h => .pos ⟨h0, room_small (by omega) (by omega)⟩ (.pos ⟨by omega, by omega, by omega⟩ (.one ⟨by simp, by simp; omega⟩))) (fun h => .one ⟨rfl, by simp; omega⟩)
def tot : List (List Int) → Nat
 | [] => 0
 | x :: r => x.length + tot r
theorem tot_drop {l : List (List Int)} {i : Nat} {x : List Int} (h : l[i]? = some x) : tot (l.drop i) = x.length + tot (l.drop (i + 1)) := by
 have hi : i < l.length := (List.getElem?_eq_some_iff.1 h).1
 have : l.drop i = x :: l.drop (i + 1) := by
  rw [List.drop_eq_getElem_cons hi]
  rw [List.getElem?_eq_getElem hi] at h
  cases h; rfl
 rw [this]; rfl
theorem concat_wp {l : List (List Int)} (h1 : tot l * 8 ≤ 140737488355328) (h2 : l.length ≤ 1000000) : Wp (fun k => Concat_86.f k l) (fun r => r.1 ≤ r.2.length ∧ r.2.take r.1 = l.flatten) := by
 refine .succ ?_
 simp only [Concat_86.f]
 refine .bind (Q := fun r => r = (tot l : Int)) ?_ (fun n hn => ?_)
 ·refine .loop (fun (m : Nat) (v : Int × Int) => 0 ≤ v.2 ∧ v.2 + (m : Int) = l.length ∧ v.1 + (tot (l.drop v.2.toNat) : Int) = tot l ∧ 0 ≤ v.1) (fun m v hv => ?_) (n := l.length) ⟨by simp, by simp, by simp, by simp⟩
  obtain ⟨n, i⟩ := v
  obtain ⟨g1, g2, g3, g4⟩ := hv
  dsimp only at g1 g2 g3 g4
  simp only [Concat_86.b3]
  refine .ite (fun hi => ?_) (fun hi => .right ?_)
  ·refine .bind (.idx g1 hi) (fun x hx => ?_)
   have := tot_drop hx
   rw [iadd64 (by omega) (by omega)]
   refine .neg (by omega) (.left ⟨m - 1, by omega, ?_⟩)
   rw [iadd64 (by omega) (by omega)]
   dsimp only
   rw [show (i + 1).toNat = i.toNat + 1 from by omega]
   exact ⟨by omega, by omega, by omega, by omega⟩
  ·rw [List.drop_of_length_le (by omega)] at g3
   simp only [tot] at g3
   omega
 subst hn
 refine .bind (grow_wp (by omega) (by omega)) (fun r hr => ?_)
 obtain ⟨n, q⟩ := r
 obtain ⟨e1, e2⟩ := hr
 dsimp only at e1 e2 ⊢
 subst e1
 refine .bind (Q := fun r => r.1 ≤ r.2.length ∧ r.2.take r.1 = l.flatten) ?_ (fun r hr => .one hr)
 refine .loop (fun (m : Nat) (v : Nat × Int × List Int) => 0 ≤ v.2.1 ∧ v.2.1 + (m : Int) = l.length ∧ v.1 + tot (l.drop v.2.1.toNat) = v.2.2.length ∧ v.2.2.take v.1 = (l.take v.2.1.toNat).flatten) (fun m v hv => ?_) (n := l.length) ⟨by simp, by simp, by simp; omega, by simp⟩
 obtain ⟨n, i, q⟩ := v
 obtain ⟨g1, g2, g3, g4⟩ := hv
 dsimp only at g1 g2 g3 g4
 simp only [Concat_86.b11]
 refine .ite (fun hi => ?_) (fun hi => .right ?_)
 ·refine .bind (.idx g1 hi) (fun x hx => ?_)
  have hd := tot_drop hx
  refine .bind (Q := fun _ => True) (.pos (by omega) (.one trivial)) (fun _ _ => .left ⟨m - 1, by omega, ?_⟩)
  rw [iadd64 (by omega) (by omega)]
  dsimp only
  have hlen : (overL q (0 + n) x).length = q.length := over_len (by omega)
  rw [show (i + 1).toNat = i.toNat + 1 from by omega, hlen]
  refine ⟨by omega, by omega, by omega, ?_⟩
  rw [List.take_add_one, hx]
  simp only [Option.toList_some, List.flatten_append, List.flatten_cons, List.flatten_nil, List.append_nil]
  rw [← g4]
  simp only [overL, Nat.zero_add]
  rw [← List.append_assoc]
  exact List.take_left' (by rw [List.length_append, List.length_take]; omega)
 ·rw [List.drop_of_length_le (by omega)] at g3
  rw [List.take_of_length_le (l := l) (i := i.toNat) (by omega)] at g4
  simp only [tot] at g3
  exact ⟨by dsimp only; omega, g4⟩
def tyOf (I : List AImport) (F : List AFunc) (f : Int) : Option Int :=
 if 0 ≤ f ∧ f < (I.length : Int) then (I[f.toNat]?).map (·.fType) else if 0 ≤ f - I.length ∧ f - I.length < (F.length : Int) then (F[(f - I.length).toNat]?).map (·.fType) else none
def noT : AType := ⟨[], []⟩
def tyAt (T : List AType) (t : Int) : AType × Bool := if 0 ≤ t ∧ t < (T.length : Int) then (match T[t.toNat]? with
 | some x => (x, true)
 | none => (noT, false)) else (noT, false)
def sigR (T : List AType) (I : List AImport) (F : List AFunc) (f : Int) : AType × Bool := match tyOf I F f with
 | some t => tyAt T t
 | none => (noT, false)
def FineT (T : List AType) : Prop := ∀ t ∈ T, t.Params.length * 8 ≤ bigN ∧ t.Results.length * 8 ≤ bigN
section
variable {T : List AType} {I : List AImport} {F : List AFunc} {m : AModule}
theorem isub_in {f : Int} {n m : Nat} (h1 : -9223372036854775808 ≤ f) (h2 : f ≤ 9223372036854775807) (hn : n ≤ bigN) (hm : m ≤ bigN) : (0 ≤ isub .i64 f n ∧ isub .i64 f n < (m : Int)) ↔ (0 ≤ f - n ∧ f - n < (m : Int)) := by
 have := bN
 by_cases h : -9223372036854775808 ≤ f - n
 ·rw [isub64 h (by omega)]
 ·have e : isub .i64 f n = f - n + 18446744073709551616 := by
   unfold isub
   have : (IntKind.i64).wrap (f - n) = (IntKind.i64).wrap (f - n + 18446744073709551616) := by
    simp only [IntKind.wrap, IntKind.bits, IntKind.signed, IntKind.max]
    have : (f - (n : Int) + 18446744073709551616) % (2 ^ 64 : Int) = (f - (n : Int)) % (2 ^ 64 : Int) := by omega
    simp only [this]
    rfl
   rw [this]
   exact icv_ok ⟨by omega, by omega⟩
  rw [e]; omega
theorem isub_eq {f : Int} {n m : Nat} (h1 : -9223372036854775808 ≤ f) (h2 : f ≤ 9223372036854775807) (hn : n ≤ bigN) (h : 0 ≤ f - n ∧ f - n < (m : Int)) : isub .i64 f n = f - n := by
 have := bN
 exact isub64 (by omega) (by omega)
theorem tyAt_wp (hT : FineT T) (t : Int) : Wp (fun k => ((module_within.f k t (T.length : Int)).bind fun r57 => (if (!r57) = true then (some ((AType.mk ([] : List Int) ([] : List Int)), false)) else ((at? T t).bind fun e59 => ((module_own.f k e59).bind fun r61 => (some (r61, true))))))) (· = tyAt T t) := by
 refine .bind (mwithin_wp _ _) (fun r hr => ?_)
 subst hr
 by_cases h : 0 ≤ t ∧ t < (T.length : Int)
 ·rw [decide_eq_true h]
  refine .neg (by decide) (.bind (.idx h.1 h.2) (fun x hx => ?_))
  obtain ⟨h1, h2⟩ := hT x (List.mem_of_getElem? hx)
  refine .bind (own_wp h1 h2) (fun r hr => .one ?_)
  rw [hr]
  simp only [tyAt, if_pos h, hx]
 ·rw [decide_eq_false h]
  refine .pos (by decide) (.one ?_)
  simp only [tyAt, if_neg h]
  rfl
theorem msig_wp (hT : FineT m.Types) (hI : m.Imports.length ≤ bigN) (hF : m.Funcs.length ≤ bigN) {f : Int} (h1 : -9223372036854775808 ≤ f) (h2 : f ≤ 9223372036854775807) : Wp (fun k => module_Sig.f k m f) (· = sigR m.Types m.Imports m.Funcs f) := by
 refine .succ ?_
 simp only [module_Sig.f]
 refine .seg (Q := fun o => tyOf m.Imports m.Funcs f = some o) (.bind (mwithin_wp _ _) (fun r hr => ?_)) (fun t ht => ?_)
 ·subst hr
  by_cases h : 0 ≤ f ∧ f < (m.Imports.length : Int)
  ·rw [decide_eq_true h]
   refine .pos rfl (.bind (.idx h.1 h.2) (fun x hx => .left ?_))
   simp only [tyOf, if_pos h, hx, Option.map_some]
  ·rw [decide_eq_false h]
   refine .neg (by decide) (.bind (mwithin_wp _ _) (fun r hr => ?_))
   subst hr
   have hq := isub_in (m := m.Funcs.length) h1 h2 hI hF
   by_cases h3 : 0 ≤ f - m.Imports.length ∧ f - m.Imports.length < (m.Funcs.length : Int)
   ·rw [decide_eq_true (hq.2 h3)]
    refine .pos rfl ?_
    rw [isub_eq h1 h2 hI h3]
    refine .bind (.idx h3.1 h3.2) (fun x hx => .left ?_)
    simp only [tyOf, if_neg h, if_pos h3, hx, Option.map_some]
   ·rw [decide_eq_false (fun q => h3 (hq.1 q))]
    refine .neg (by decide) (.right ?_)
    simp only [sigR, tyOf, if_neg h, if_neg h3]
    rfl
 ·simp only [sigR, ht]
  exact tyAt_wp hT t
def blkR (T : List AType) (a : Int) : AType × Bool := if a = -1 then (noT, true) else if a = -2 then (⟨[], [127]⟩, true) else if a = -3 then (⟨[], [126]⟩, true) else if a = -4 then (⟨[], [124]⟩, true) else tyAt T a
theorem mblock_wp (hT : FineT m.Types) (a : Int) : Wp (fun k => module_Block.f k m a) (· = blkR m.Types a) := by
 refine .succ ?_
 simp only [module_Block.f, blkR]
 refine .ite (fun h => .one (by rw [if_pos h]; rfl)) (fun h => ?_)
 rw [if_neg h]
 refine .ite (fun h => .one (by rw [if_pos h])) (fun h => ?_)
 rw [if_neg h]
 refine .ite (fun h => .one (by rw [if_pos h])) (fun h => ?_)
 rw [if_neg h]
 refine .ite (fun h => .one (by rw [if_pos h])) (fun h => ?_)
 rw [if_neg h]
 exact tyAt_wp hT a
def locR (T : List AType) (I : List AImport) (F : List AFunc) (f : Int) : List Int := if (sigR T I F f).2 = true ∧ 0 ≤ f ∧ 0 ≤ f - I.length ∧ f - I.length < (F.length : Int) then (match F[(f - I.length).toNat]? with
 | some g => (sigR T I F f).1.Params ++ g.Locals
 | none => []) else []
theorem mlocals_wp (hT : FineT m.Types) (hI : m.Imports.length ≤ bigN) (hF : m.Funcs.length ≤ bigN) {f : Int} (h1 : -9223372036854775808 ≤ f) (h2 : f ≤ 9223372036854775807) (hr : ∀ g ∈ m.Funcs, ((sigR m.Types m.Imports m.Funcs f).1.Params.length + g.Locals.length) * 8 ≤ 140737488355328) :
  Wp (fun k => module_Locals.f k m f) (fun r => r.1 ≤ r.2.length ∧ r.2.take r.1 = locR m.Types m.Imports m.Funcs f) := by
 refine .succ ?_
 simp only [module_Locals.f]
 refine .bind (msig_wp hT hI hF h1 h2) (fun r hs => ?_)
 subst hs
 by_cases hc : (sigR m.Types m.Imports m.Funcs f).2 = true
 ·rw [hc]
  refine .neg (by decide) ?_
  refine .ite (fun h0 => .one ⟨by simp, ?_⟩) (fun h0 => ?_)
  ·simp only [locR]; rw [if_neg (fun q => by omega)]; rfl
  ·refine .bind (mwithin_wp _ _) (fun r hr' => ?_)
   subst hr'
   have hq := isub_in (m := m.Funcs.length) h1 h2 hI hF
   by_cases h3 : 0 ≤ f - m.Imports.length ∧ f - m.Imports.length < (m.Funcs.length : Int)
   ·rw [decide_eq_true (hq.2 h3)]
    refine .neg (by decide) ?_
    rw [isub_eq h1 h2 hI h3]
    refine .bind (.idx h3.1 h3.2) (fun g hg => ?_)
    have := hr g (List.mem_of_getElem? hg)
    refine .bind (concat_wp (by simp only [tot]; omega) (by simp)) (fun r hr => .one ⟨hr.1, ?_⟩)
    dsimp only
    rw [hr.2]
    simp only [locR]
    rw [if_pos ⟨hc, by omega, h3.1, h3.2⟩, hg]
    simp
   ·rw [decide_eq_false (fun q => h3 (hq.1 q))]
    refine .pos (by decide) (.one ⟨by simp, ?_⟩)
    simp only [locR]; rw [if_neg (fun q => h3 q.2.2)]; rfl
 ·refine .pos (by simpa using hc) (.one ⟨by simp, ?_⟩)
  simp only [locR]; rw [if_neg (fun q => hc q.1)]; rfl
theorem rtyAt_wp (t : Int) : Wp (fun k => (if t < 0 then (some ((AType.mk ([] : List Int) ([] : List Int)), false)) else (if t ≥ (T.length : Int) then (some ((AType.mk ([] : List Int) ([] : List Int)), false)) else ((at? T t).bind fun e43 => (some (e43, true)))))) (· = tyAt T t) := by
 refine .ite (fun h => .one ?_) (fun h => .ite (fun h2 => .one ?_) (fun h2 => .bind (.idx (by omega) (by omega)) (fun x hx => .one ?_)))
 ·simp only [tyAt]; rw [if_neg (by omega)]; rfl
 ·simp only [tyAt]; rw [if_neg (by omega)]; rfl
 ·simp only [tyAt]; rw [if_pos ⟨by omega, by omega⟩, hx]
theorem rsig_wp (hI : m.Imports.length ≤ bigN) (hF : m.Funcs.length ≤ bigN) {f : Int} (h1 : -9223372036854775808 ≤ f) (h2 : f ≤ 9223372036854775807) : Wp (fun k => ref6_Sig_1.f k m f) (· = sigR m.Types m.Imports m.Funcs f) := by
 have hb := bN
 refine .succ ?_
 simp only [ref6_Sig_1.f]
 refine .seg (Q := fun o => (tyOf m.Imports m.Funcs f = some o) ∨ (tyOf m.Imports m.Funcs f = none ∧ o = -1)) ?_ (fun t ht => ?_)
 ·refine .seg (Q := Tell (0 ≤ f ∧ f < (m.Imports.length : Int))) (.ite (fun h => .left (.dec (by omega))) (fun h => .left (.no (by omega)))) (fun x hx => .tif hx (fun h => ?_) (fun h => ?_))
  ·refine .bind (.idx h.1 h.2) (fun x hx => .left (.inl ?_))
   simp only [tyOf, if_pos h, hx, Option.map_some]
  ·rw [iadd64 (by omega) (by omega)]
   refine .seg (Q := Tell (0 ≤ f - m.Imports.length ∧ f - m.Imports.length < (m.Funcs.length : Int))) (.ite (fun h => .left (.dec (by omega))) (fun h => .left (.no (by omega)))) (fun x hx => .tif hx (fun h3 => ?_) (fun h3 => .left (.inr ⟨?_, rfl⟩)))
   ·rw [isub_eq h1 h2 hI h3]
    refine .bind (.idx h3.1 h3.2) (fun x hx => .left (.inl ?_))
    simp only [tyOf, if_neg h, if_pos h3, hx, Option.map_some]
   ·simp only [tyOf, if_neg h, if_neg h3]
 ·rcases ht with ht | ⟨ht, rfl⟩
  ·simp only [sigR, ht]; exact rtyAt_wp t
  ·refine .pos (by decide) (.one ?_)
   simp only [sigR, ht]; rfl
theorem rblock_wp (a : Int) : Wp (fun k => ref6_Block_1.f k m a) (· = blkR m.Types a) := by
 refine .succ ?_
 simp only [ref6_Block_1.f, blkR]
 refine .ite (fun h => .one (by rw [if_pos h]; rfl)) (fun h => ?_)
 rw [if_neg h]
 refine .ite (fun h => .one (by rw [if_pos h])) (fun h => ?_)
 rw [if_neg h]
 refine .ite (fun h => .one (by rw [if_pos h])) (fun h => ?_)
 rw [if_neg h]
 refine .ite (fun h => .one (by rw [if_pos h])) (fun h => ?_)
 rw [if_neg h]
 refine .ite (fun h => .ite (fun h2 => .bind (.idx (by omega) h2) (fun x hx => .one ?_)) (fun h2 => .one ?_)) (fun h => .one ?_)
 ·simp only [tyAt]; rw [if_pos ⟨by omega, by omega⟩, hx]
 ·simp only [tyAt]; rw [if_neg (by omega)]; rfl
 ·simp only [tyAt]; rw [if_neg (by omega)]; rfl
theorem rlocals_wp (hI : m.Imports.length ≤ bigN) (hF : m.Funcs.length ≤ bigN) {f : Int} (h1 : -9223372036854775808 ≤ f) (h2 : f ≤ 9223372036854775807) (hr : ∀ g ∈ m.Funcs, ((sigR m.Types m.Imports m.Funcs f).1.Params.length + g.Locals.length) * 8 ≤ 140737488355328) :
  Wp (fun k => ref6_Locals_1.f k m f) (· = locR m.Types m.Imports m.Funcs f) := by
 refine .succ ?_
 simp only [ref6_Locals_1.f]
 refine .bind (rsig_wp hI hF h1 h2) (fun r hs => ?_)
 subst hs
 by_cases hc : (sigR m.Types m.Imports m.Funcs f).2 = true
 ·rw [hc]
  refine .neg (by decide) (.ite (fun h0 => .one ?_) (fun h0 => ?_))
  ·simp only [locR]; rw [if_neg (fun q => by omega)]
  ·by_cases h3 : 0 ≤ f - m.Imports.length ∧ f - m.Imports.length < (m.Funcs.length : Int)
   ·rw [isub_eq h1 h2 hI h3]
    refine .bind (.idx h3.1 h3.2) (fun g hg => ?_)
    have := hr g (List.mem_of_getElem? hg)
    refine .pos (room_small (by omega) (by omega)) (.pos (room_small (by omega) (by omega)) (.one ?_))
    simp only [locR]
    rw [if_pos ⟨hc, by omega, h3.1, h3.2⟩, hg]
   ·exfalso
    revert hc
    simp only [sigR, tyOf]
    rw [if_neg (by omega), if_neg h3]
    exact fun q => by cases q
 ·refine .pos (by simpa using hc) (.one ?_)
  simp only [locR]; rw [if_neg (fun q => hc q.1)]
end
end Go.R4

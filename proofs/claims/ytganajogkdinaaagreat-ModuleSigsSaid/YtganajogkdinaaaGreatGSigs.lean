/- ModuleSigs: the plain law, joined. -/
import Derived.Test.YtganajogkdinaaaGreatGSig
set_option linter.all false
namespace Go.R4
open Go.Proofs Go.Ev
set_option maxRecDepth 100000
theorem tys_fine : FineT tys := fun t ht => by obtain ⟨h1, h2⟩ := tys_ok t ht; exact ⟨by have := bN; omega, by have := bN; omega⟩
theorem tys_len : tys.length = 9 := rfl
theorem imps_len : imps.length = 2 := rfl
theorem tyAt_in {T : List api_Type} {t : Int} {x : api_Type} (h0 : 0 ≤ t) (h : T[t.toNat]? = some x) : tyAt T t = (x, true) := by
  have := (List.getElem?_eq_some_iff.1 h).1
  simp only [tyAt, if_pos (show 0 ≤ t ∧ t < (T.length : Int) from ⟨h0, by omega⟩), h]
theorem imp_sig {x : Int} {e : api_Import} {t : api_Type} {F : List api_Func} (h0 : 0 ≤ x) (he : imps[x.toNat]? = some e) (h1 : 0 ≤ e.fType) (ht : tys[e.fType.toNat]? = some t) : sigR tys imps F x = (t, true) := by
  have := (List.getElem?_eq_some_iff.1 he).1
  simp only [sigR, tyOf, if_pos (show 0 ≤ x ∧ x < (imps.length : Int) from ⟨h0, by omega⟩), he, Option.map_some]
  exact tyAt_in h1 ht
theorem fun_sig {x : Int} {e : api_Func} {t : api_Type} {F : List api_Func} (h0 : 0 ≤ x) (he : F[x.toNat]? = some e) (h1 : 0 ≤ e.fType) (ht : tys[e.fType.toNat]? = some t) : sigR tys imps F ((imps.length : Int) + x) = (t, true) := by
  have := (List.getElem?_eq_some_iff.1 he).1
  have e1 : (imps.length : Int) + x - imps.length = x := by omega
  simp only [sigR, tyOf, e1]
  rw [if_neg (by omega), if_pos ⟨h0, by omega⟩, he]
  exact tyAt_in h1 ht
theorem take_full {α : Type} {l a : List α} {n : Nat} (h1 : n ≤ l.length) (h2 : l.take n = a) : n = a.length := by
  rw [← h2, List.length_take]; omega
theorem sigs_wp {l : List Int} (hl : l.length ≤ bigN) : Wp (fun k => law6_ModuleSigs.f k l) (· = true) := by
  refine .succ ?_
  simp only [law6_ModuleSigs.f]
  refine .bind (module_wp hl) (fun r hr => ?_)
  obtain ⟨T, I, G, D, F, M, E⟩ := r
  dsimp only at hr ⊢
  obtain ⟨rfl, rfl, rfl, _, _, ⟨f1, f2, f3⟩, _⟩ := hr
  have hT := tys_fine
  have hI : imps.length ≤ bigN := by decide
  have hbN := bN
  have hF : F.length ≤ bigN := by omega
  have hlen : tys.length = 9 := rfl
  have hil : imps.length = 2 := rfl
  have par : ∀ {f : Int} {t : api_Type}, sigR tys imps F f = (t, true) → t ∈ tys → ∀ g ∈ F, ((sigR tys imps F f).1.Params.length + g.Locals.length) * 8 ≤ 140737488355328 := by
    intro f t h ht g hg
    rw [h]
    have := (tys_ok t ht).1
    have := (f3 g hg).1.2.2.1
    dsimp only
    omega
  refine .alt (Q := fun _ => True) (Q2 := fun _ => False) (.loop (fun (n : Nat) (x : Int) => 0 ≤ x ∧ x + (n : Int) = imps.length) (fun n x hx => ?_) (n := imps.length) ⟨by omega, by omega⟩) (fun _ _ => ?_) (fun _ h => h.elim)
  · obtain ⟨h0, hn⟩ := hx
    simp only [law6_ModuleSigs.b3]
    refine .ite (fun hlt => ?_) (fun _ => .right trivial)
    have he := get_in h0 hlt
    generalize imps[x.toNat]'(by omega) = e at he
    obtain ⟨h1, h2⟩ := imps_ok e (List.mem_of_getElem? he)
    have ht : tys[e.fType.toNat]? = some (tys[e.fType.toNat]'(by omega)) := List.getElem?_eq_getElem _
    generalize tys[e.fType.toNat]'(by omega) = t at ht
    have hs : sigR tys imps F x = (t, true) := imp_sig h0 he h1 ht
    have htm := List.mem_of_getElem? ht
    refine .bind (msig_wp hT hI hF (by omega) (by omega)) (fun r hr => ?_)
    rw [hr, hs]
    dsimp only
    refine .neg (by decide) (.bind (.idx h0 hlt) (fun e' he' => ?_))
    rw [he] at he'; cases he'
    refine .bind (.idx h1 (by omega)) (fun t' ht' => ?_)
    rw [ht] at ht'; cases ht'
    obtain ⟨p1, p2⟩ := tys_ok t htm
    refine .bind (rtypes_wp _ _ (by omega) (by omega)) (fun r hr => ?_)
    rw [hr, decide_eq_true ⟨rfl, rfl⟩]
    refine .neg (by decide) (.bind (mlocals_wp hT hI hF (by omega) (by omega) (par hs htm)) (fun r hr => ?_))
    obtain ⟨q1, q2⟩ := hr
    have hz : locR tys imps F x = [] := by simp only [locR]; rw [if_neg (fun q => by omega)]
    rw [hz] at q2
    have := take_full q1 q2
    obtain ⟨n1, l1⟩ := r
    dsimp only at this ⊢
    simp only [List.length_nil] at this
    refine .pos (by omega) (.left ⟨n - 1, by omega, ?_⟩)
    rw [iadd64 (by omega) (by omega)]
    exact ⟨by omega, by omega⟩
  refine .alt (Q := fun _ => True) (Q2 := fun _ => False) (.loop (fun (n : Nat) (x : Int) => 0 ≤ x ∧ x + (n : Int) = F.length) (fun n x hx => ?_) (n := F.length) ⟨by omega, by omega⟩) (fun _ _ => ?_) (fun _ h => h.elim)
  · obtain ⟨h0, hn⟩ := hx
    simp only [law6_ModuleSigs.b10]
    refine .ite (fun hlt => ?_) (fun _ => .right trivial)
    have he := get_in h0 hlt
    generalize F[x.toNat]'(by omega) = e at he
    obtain ⟨h1, h2, h3, h4⟩ := (f3 e (List.mem_of_getElem? he)).1
    have ht : tys[e.fType.toNat]? = some (tys[e.fType.toNat]'(by omega)) := List.getElem?_eq_getElem _
    generalize tys[e.fType.toNat]'(by omega) = t at ht
    have hs : sigR tys imps F ((imps.length : Int) + x) = (t, true) := fun_sig h0 he h1 ht
    have htm := List.mem_of_getElem? ht
    rw [iadd64 (by omega) (by omega)]
    refine .bind (msig_wp hT hI hF (by omega) (by omega)) (fun r hr => ?_)
    rw [hr, hs]
    dsimp only
    refine .bind (mlocals_wp hT hI hF (by omega) (by omega) (par hs htm)) (fun r hr => ?_)
    obtain ⟨q1, q2⟩ := hr
    have hz : locR tys imps F ((imps.length : Int) + x) = t.Params ++ e.Locals := by
      have e1 : (imps.length : Int) + x - imps.length = x := by omega
      simp only [locR, hs, e1]
      rw [if_pos ⟨trivial, by omega, h0, by omega⟩, he]
    rw [hz] at q2
    have hn1 := take_full q1 q2
    rw [List.length_append] at hn1
    obtain ⟨n1, l1⟩ := r
    dsimp only at hn1 q1 q2 ⊢
    refine .neg (by decide) (.pos ⟨h0, by omega⟩ (.bind (.get (by omega)) (fun e' he' => ?_)))
    rw [he] at he'; cases he'
    refine .bind (.idx h1 (by omega)) (fun t' ht' => ?_)
    rw [ht] at ht'; cases ht'
    obtain ⟨p1, p2⟩ := tys_ok t htm
    refine .bind (rtypes_wp _ _ (by omega) (by omega)) (fun r hr => ?_)
    rw [hr, decide_eq_true ⟨rfl, rfl⟩]
    refine .neg (by decide) (.pos ⟨h0, by omega⟩ (.bind (.get (by omega)) (fun e' he' => ?_)))
    rw [he] at he'; cases he'
    rw [iadd64 (by omega) (by omega)]
    refine .pos (by omega) (.pos ⟨by omega, by omega, by omega⟩ ?_)
    have c1 : List.take (((t.Params.length : Int)).toNat - 0) (List.drop 0 l1) = t.Params := by
      rw [List.drop_zero, show ((t.Params.length : Int)).toNat - 0 = t.Params.length from by omega]
      have := congrArg (List.take t.Params.length) q2
      rw [List.take_take, Nat.min_eq_left (by omega), List.take_left] at this
      exact this
    have c2 : List.take (n1 - ((t.Params.length : Int)).toNat) (List.drop (0 + ((t.Params.length : Int)).toNat) l1) = e.Locals := by
      rw [show 0 + ((t.Params.length : Int)).toNat = t.Params.length from by omega, show ((t.Params.length : Int)).toNat = t.Params.length from by omega, ← List.drop_take, q2, List.drop_left]
    rw [c1]
    refine .bind (bsame_wp _ _ (by omega)) (fun r hr => ?_)
    rw [hr, decide_eq_true rfl]
    refine .neg (by decide) (.pos ⟨by omega, by omega, by omega⟩ (.pos ⟨h0, by omega⟩ (.bind (.get (by omega)) (fun e' he' => ?_))))
    rw [he] at he'; cases he'
    rw [c2]
    refine .bind (bsame_wp _ _ (by omega)) (fun r hr => ?_)
    rw [hr, decide_eq_true rfl]
    refine .neg (by decide) (.left ⟨n - 1, by omega, ?_⟩)
    rw [iadd64 (by omega) (by omega)]
    exact ⟨by omega, by omega⟩
  refine .alt (Q := fun _ => True) (Q2 := fun _ => False) (.loop (fun (n : Nat) (x : Int) => 0 ≤ x ∧ x + (n : Int) = tys.length) (fun n x hx => ?_) (n := tys.length) ⟨by omega, by omega⟩) (fun _ _ => ?_) (fun _ h => h.elim)
  · obtain ⟨h0, hn⟩ := hx
    simp only [law6_ModuleSigs.b18]
    refine .ite (fun hlt => ?_) (fun _ => .right trivial)
    have ht := get_in h0 hlt
    generalize tys[x.toNat]'(by omega) = t at ht
    have hb : blkR tys x = (t, true) := by
      simp only [blkR]
      rw [if_neg (by omega), if_neg (by omega), if_neg (by omega), if_neg (by omega)]
      exact tyAt_in h0 ht
    refine .bind (mblock_wp hT x) (fun r hr => ?_)
    rw [hr, hb]
    dsimp only
    refine .neg (by decide) (.bind (.idx h0 hlt) (fun t' ht' => ?_))
    rw [ht] at ht'; cases ht'
    obtain ⟨p1, p2⟩ := tys_ok t (List.mem_of_getElem? ht)
    refine .bind (rtypes_wp _ _ (by omega) (by omega)) (fun r hr => ?_)
    rw [hr, decide_eq_true ⟨rfl, rfl⟩]
    refine .neg (by decide) (.left ⟨n - 1, by omega, ?_⟩)
    rw [iadd64 (by omega) (by omega)]
    exact ⟨by omega, by omega⟩
  rw [iadd64 (by omega) (by omega)]
  refine .bind (msig_wp hT hI hF (by omega) (by omega)) (fun r hr => ?_)
  have hs : sigR tys imps F ((imps.length : Int) + (F.length : Int)) = (noT, false) := by
    simp only [sigR, tyOf]
    rw [if_neg (by omega), if_neg (by omega)]
  rw [hr, hs]
  dsimp only
  refine .bind (mblock_wp hT _) (fun r hr => ?_)
  have hb : blkR tys (tys.length : Int) = (noT, false) := by
    simp only [blkR, tyAt]
    rw [if_neg (by omega), if_neg (by omega), if_neg (by omega), if_neg (by omega), if_neg (by omega)]
  rw [hr, hb]
  dsimp only
  exact .pos (by decide) (.pos (by decide) (.bind known6_wp (fun r hr => .one hr)))
theorem ModuleSigs {l : List Int} (h : l.length * 8 ≤ bigN) (_ : ∀ x ∈ l, inR .i64 x) : ∃ k, law6_ModuleSigs.f k l = some true := (sigs_wp (by have := bN; omega)).fuel
end Go.R4

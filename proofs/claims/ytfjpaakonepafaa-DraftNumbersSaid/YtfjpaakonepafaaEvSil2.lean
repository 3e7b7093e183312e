import Derived.Test.YtfjpaakonepafaaEvSil
import Derived.Laws.StructEq
set_option linter.all false
namespace Go.Ev
variable [Glo]
set_option linter.unusedSimpArgs false
variable {P : Program} {Φ : Phi} {ρ : Rho} {H : Heap} {s : List A} {a : Act}
theorem eqGuard_skip {op : BinOp} {t : TypeId} {x y : Operand} {v u : Value} (h1 : v = .nilIface → u ≠ .nilIface) (h2 : ∀ c, v ≠ .agg c) (w : World) :
  (eqGuard op t x y v u).run P w = .ok () w := by
 unfold eqGuard
 split
 case h_3 => rfl
 all_goals
  simp only [Bool.not_true, Bool.false_eq_true, if_false]
  split
  ·exact absurd rfl (h1 rfl)
  ·exact absurd rfl (h2 _)
  ·rfl
theorem eqC_ok {t : TypeId} {x y : FV} {b : Bool} {v u : Value} (h : eqC P t x y = some b) (hx : FVR Φ x v) (hy : FVR Φ y u) (d : Nat) (w : World) : (Op.equalIn (d + 1) t v u).run P w = .ok b w := by
 unfold eqC at h
 split at h
 all_goals (try (cases h; done))
 all_goals
  simp only [FVR] at hx hy
  subst hx; subst hy
  split at h
  all_goals (try (cases h; done))
 ·rename_i hu
  split at h
  ·rename_i hk; subst hk; cases h; exact run_equalIn_int w d t _ _ _ _ hu
  ·cases h
 ·rename_i hu; cases h; exact run_equalIn_bool' w d t _ _ hu
 ·rename_i hu; cases h; exact run_equalIn_string w d t _ _ hu
theorem eqFs_ok {xs ys : List FV} {vs us : Array Value} (hx : FVRs Φ xs (vs[·]?) 0) (hy : FVRs Φ ys (us[·]?) 0) (d : Nat) (w : World) : ∀ {fs : List Field} {b : Bool}, eqFs P xs ys fs = some b → (Op.eqFields (d + 1) vs us fs).run P w = .ok b w
 | [], b, h => by simp only [eqFs, Option.some.injEq] at h; subst h; rfl
 | f :: r, b, h => by
  simp only [eqFs] at h
  split at h
  ·cases h
  ·rename_i hn
   split at h
   ·rename_i x y hg hx' hy'
    split at h
    ·rename_i p q hp hq
     cases h
     obtain ⟨v, v1, v2⟩ := FVRs_get hx hx'
     obtain ⟨u, u1, u2⟩ := FVRs_get hy hy'
     rw [Nat.zero_add] at v1 u1
     have part_run : ∀ {cs : Array Value} {z : Value}, cs[f.offset]? = some z → (part f.type cs f.offset).run P w = .ok z w := by
      intro cs z hz
      simp only [part, Sem.run_bind, aggT_run hg, Result.andThen_ok, Bool.false_eq_true, if_false, hz, Sem.run_pure]
     simp only [Op.eqFields, if_pos (show f.name ≠ "_" from hn), Sem.run_bind, part_run v1, part_run u1, Result.andThen_ok, eqC_ok hp v2 u2 d w, Sem.run_ite]
     cases p with
     | false => simp
     | true => simpa using eqFs_ok hx hy d w hq
    ·cases h
   ·cases h
theorem eqN_ok {t : TypeId} {x y : A} {b : Bool} {v u : Value} (h : eqN P t x y = some b) (hx : AR Φ ρ H x v) (hy : AR Φ ρ H y u) (w : World) :
  (Op.equal t v u).run P w = .ok b w ∧ (∀ op ox oy, (eqGuard op t ox oy v u).run P w = .ok () w) ∧
   (binOp .eql t v u = do pure (.bool (← Op.equal t v u))) ∧ (binOp .neq t v u = do pure (.bool (!(← Op.equal t v u)))) := by
 obtain ⟨d, key⟩ : ∃ d : Nat, Op.equal t v u = Op.equalIn (d + 1) t v u := ⟨9999, rfl⟩
 unfold eqN at h
 split at h
 ·simp only [AR, CR, FVR] at hx hy
  subst hx; subst hy
  split at h
  ·rename_i hu
   cases h
   refine ⟨?_, fun _ _ _ => eqGuard_skip (by simp) (by simp) w, rfl, rfl⟩
   rw [key]
   simp [Op.equalIn, underlying, hu]
  ·cases h
 ·simp only [AR] at hx hy
  obtain ⟨vs, rfl, _, hx⟩ := hx
  obtain ⟨us, rfl, _, hy⟩ := hy
  split at h
  ·rename_i fs hu
   split at h
   ·rename_i hc
    obtain ⟨c1, c2⟩ := hc
    have hf : P.fieldsOf t = fs := by simp [Program.fieldsOf, hu]
    refine ⟨?_, fun _ _ _ => run_eqGuard_agg w _ _ _ _ _ _ c2, rfl, rfl⟩
    have := run_equalIn_struct (P := P) w 9999 t vs us (by rw [hf]; exact hu) c1
    rw [hf] at this
    rw [Op.equal, Op.maxDepth, this]
    exact eqFs_ok hx hy 9998 w h
   ·cases h
  ·cases h
 ·simp only [AR] at hx hy
  split at h
  ·rename_i hu
   split at h
   all_goals (try (cases h; done))
   all_goals simp only [CR, FVR] at hx hy
   ·subst hx; subst hy; cases h
    refine ⟨?_, fun _ _ _ => eqGuard_skip (by simp) (by simp) w, rfl, rfl⟩
    rw [key]; simp [Op.equalIn, underlying, hu]
   ·obtain ⟨p, rfl, _⟩ := hy; subst hx; cases h
    refine ⟨?_, fun _ _ _ => eqGuard_skip (by simp) (by simp) w, rfl, rfl⟩
    rw [key]; simp [Op.equalIn, underlying, hu]
   ·obtain ⟨c, off, arr, rfl, _⟩ := hy; subst hx; cases h
    refine ⟨?_, fun _ _ _ => eqGuard_skip (by simp) (by simp) w, rfl, rfl⟩
    rw [key]; simp [Op.equalIn, underlying, hu]
   ·obtain ⟨p, rfl, _⟩ := hx; subst hy; cases h
    refine ⟨?_, fun _ _ _ => eqGuard_skip (by simp) (by simp) w, rfl, rfl⟩
    rw [key]; simp [Op.equalIn, underlying, hu]
   ·obtain ⟨c, off, arr, rfl, _⟩ := hx; subst hy; cases h
    refine ⟨?_, fun _ _ _ => eqGuard_skip (by simp) (by simp) w, rfl, rfl⟩
    rw [key]; simp [Op.equalIn, underlying, hu]
  ·rename_i hu
   split at h
   all_goals (try (cases h; done))
   all_goals simp only [CR, FVR] at hx hy
   ·obtain ⟨u', rfl, _⟩ := hy; subst hx; cases h
    refine ⟨?_, fun _ _ _ => eqGuard_skip (by simp) (by simp) w, rfl, rfl⟩
    rw [key]; simp [Op.equalIn, underlying, hu]
   ·obtain ⟨u', rfl, _⟩ := hx; subst hy; cases h
    refine ⟨?_, fun _ _ _ => eqGuard_skip (by simp) (by simp) w, rfl, rfl⟩
    rw [key]; simp [Op.equalIn, underlying, hu]
  ·rename_i hu
   split at h
   all_goals (try (cases h; done))
   all_goals simp only [CR, FVR] at hx hy
   ·subst hx; subst hy; cases h
    refine ⟨?_, fun _ _ _ => eqGuard_skip (by simp) (by simp) w, rfl, rfl⟩
    rw [key]; simp [Op.equalIn, underlying, hu]
   ·obtain ⟨p, rfl, _⟩ := hy; subst hx; cases h
    refine ⟨?_, fun _ _ _ => eqGuard_skip (by simp) (by simp) w, rfl, rfl⟩
    rw [key]; simp [Op.equalIn, underlying, hu]
   ·obtain ⟨p, rfl, _⟩ := hx; subst hy; cases h
    refine ⟨?_, fun _ _ _ => eqGuard_skip (by simp) (by simp) w, rfl, rfl⟩
    rw [key]; simp [Op.equalIn, underlying, hu]
   ·obtain ⟨p, rfl, _⟩ := hy; subst hx; cases h
    refine ⟨?_, fun _ _ _ => eqGuard_skip (by simp) (by simp) w, rfl, rfl⟩
    rw [key]; simp [Op.equalIn, underlying, hu]
   ·obtain ⟨p, rfl, _⟩ := hx; subst hy; cases h
    refine ⟨?_, fun _ _ _ => eqGuard_skip (by simp) (by simp) w, rfl, rfl⟩
    rw [key]; simp [Op.equalIn, underlying, hu]
  ·rename_i hu
   split at h
   ·simp only [CR, FVR] at hy
    obtain ⟨py, ky, rfl, hky, hny, _⟩ := hy
    have hpy : py = none := (hny.2 (by simp)).2 trivial
    subst hpy
    have hkey : ∃ p n k, v = .slice p n k ∧ p.isNone = b := by
     unfold nilSl at h
     split at h
     ·rename_i _ sz els cap _
      simp only [CR, FVR] at hx
      obtain ⟨p, k, rfl, hc, h0, h1⟩ := hx
      refine ⟨_, _, _, rfl, ?_⟩
      split at h
      ·rename_i hl
       cases h
       rcases h1 with h1 | ⟨c, off, arr, rfl, _⟩
       ·subst h1; simp at hl
       ·rfl
      ·split at h
       ·rename_i hcap
        cases h
        have := h0.2 (by cases cap <;> simp_all)
        cases p with
        | none => have := this.1 rfl; subst this; rfl
        | some q =>
         have : sz ≠ 0 := fun hz => by have := this.2 hz; cases this
         simpa using this
       ·cases h
     ·rename_i _ b' sz i n cap _
      simp only [CR] at hx
      obtain ⟨p, k, rfl, hc, hp, _⟩ := hx
      refine ⟨_, _, _, rfl, ?_⟩
      have : p ≠ none ∧ b = false := by
       split at h
       ·rename_i hl; cases h; exact ⟨hp (.inl hl), rfl⟩
       ·split at h
        ·rename_i hl; cases h; exact ⟨hp (.inr (by cases cap <;> simp_all)), rfl⟩
        ·cases h
      obtain ⟨h1, rfl⟩ := this
      cases p with
      | none => exact absurd rfl h1
      | some q => rfl
     ·rename_i _ b' sz n _
      simp only [CR] at hx
      obtain ⟨p, k, rfl, hc, hp, _⟩ := hx
      refine ⟨_, _, _, rfl, ?_⟩
      split at h
      ·rename_i hl; cases h
       have := hp hl
       cases p with
       | none => exact absurd rfl this
       | some q => rfl
      ·cases h
     ·cases h
    obtain ⟨p, n, k, rfl, rfl⟩ := hkey
    refine ⟨?_, fun _ _ _ => eqGuard_skip (by simp) (by simp) w, rfl, rfl⟩
    rw [key]
    cases p <;> simp [Op.equalIn, underlying, hu]
   ·cases h
  ·cases h
 ·cases h
theorem binA_ok {op : BinOp} {t : TypeId} {x y : A} {r : A} {v u : Value} {ox oy : Operand} (h : binA P op t x y = some r) (hx : AR Φ ρ H x v) (hy : AR Φ ρ H y u) (w : World) :
  ∃ z, ((do eqGuard op t ox oy v u; binOp op t v u : Sem Value)).run P w = .ok z w ∧ AR Φ ρ H r z := by
 simp only [Sem.run_bind]
 unfold binA at h
 split at h
 ·simp only [Option.map_eq_some_iff] at h
  obtain ⟨q, hq, rfl⟩ := h
  simp only [AR, CR, FVR] at hx hy
  subst hx; subst hy
  obtain ⟨z, hz, hr⟩ := intBin_ok (Φ := Φ) hq t w (P := P)
  refine ⟨z, ?_, by simpa [AR, CR] using hr⟩
  rw [eqGuard_skip (by simp) (by simp)]
  simpa using hz
 ·simp only [Option.map_eq_some_iff] at h
  obtain ⟨q, hq, rfl⟩ := h
  simp only [AR, CR, FVR] at hx hy
  subst hx; subst hy
  obtain ⟨z, hz, hr⟩ := strBin_ok (Φ := Φ) hq t w (P := P)
  refine ⟨z, ?_, by simpa [AR, CR] using hr⟩
  rw [eqGuard_skip (by simp) (by simp)]
  simpa using hz
 ·split at h
  ·simp only [Option.map_eq_some_iff] at h
   obtain ⟨q, hq, rfl⟩ := h
   obtain ⟨e1, e2, e4, e5⟩ := eqN_ok hq hx hy w
   refine ⟨.bool q, ?_, by simp [AR, CR, FVR]⟩
   rw [e2, e4]
   simp [e1]
  ·simp only [Option.map_eq_some_iff] at h
   obtain ⟨q, hq, rfl⟩ := h
   obtain ⟨e1, e2, e4, e5⟩ := eqN_ok hq hx hy w
   refine ⟨.bool (!q), ?_, by simp [AR, CR, FVR]⟩
   rw [e2, e5]
   simp [e1]
  ·cases h
theorem unA_ok {op : UnOp} {x r : A} {v : Value} (h : unA op x = some r) (hx : AR Φ ρ H x v) (w : World) :
  ∃ z, (Op.unary op v).run P w = .ok z w ∧ AR Φ ρ H r z := by
 unfold unA at h
 split at h
 ·simp only [AR, CR, FVR] at hx; subst hx
  split at h
  ·cases h; exact ⟨_, by simp [Op.unary, Op.intArith]; rfl, by simp [AR, CR, FVR]⟩
  ·cases h; exact ⟨_, by simp [Op.unary, Op.intBits]; rfl, by simp [AR, CR, FVR]⟩
  ·cases h
 ·simp only [AR, CR, FVR] at hx; subst hx
  split at h
  ·cases h; exact ⟨_, by simp [Op.unary]; rfl, by simp [AR, CR, FVR]⟩
  ·cases h
 ·cases h
theorem convA_ok {src dst : TypeId} {x r : A} {v : Value} (h : convA P src dst x = some r) (hx : AR Φ ρ H x v) (w : World) :
  ∃ z, (convert src dst v).run P w = .ok z w ∧ AR Φ ρ H r z := by
 unfold convA at h
 split at h
 ·rename_i d _ _ _ hs hd
  simp only [AR, CR, FVR] at hx; subst hx
  cases h
  refine ⟨_, ?_, by simp [AR, CR, FVR]; rfl⟩
  simp only [convert, Sem.run_bind, underlying_run hs, underlying_run hd, Result.andThen_ok]
  cases d <;> rfl
 ·rename_i d _ _ hs hd
  simp only [AR, CR, FVR] at hx; subst hx
  cases h
  refine ⟨_, ?_, by simp [AR, CR, FVR]; rfl⟩
  simp only [convert, Sem.run_bind, underlying_run hs, underlying_run hd, Result.andThen_ok]
  cases d <;> rfl
 ·rename_i d _ hs hd
  simp only [AR, CR, FVR] at hx; subst hx
  cases h
  refine ⟨_, ?_, by simp [AR, CR, FVR]; rfl⟩
  simp only [convert, Sem.run_bind, underlying_run hs, underlying_run hd, Result.andThen_ok]
  cases d <;> rfl
 ·cases h
theorem fieldOf_run {t : TypeId} {f : Nat} {fd : Field} (h : fieldOf P t f = some fd) : ∃ fs, P.underlying t = some (.struct fs) ∧ fs[f]? = some fd := by
 unfold fieldOf at h
 split at h
 ·rename_i fs hu; exact ⟨fs, hu, h⟩
 ·cases h
theorem addr_add (c off n : Nat) : (⟨c, off, none⟩ : Addr).add n = ⟨c, off + n, none⟩ := by
 unfold Addr.add; split
 ·rename_i h; simp [h]
 ·rfl
theorem FVRs_drop {l : List FV} {g : Nat → Option Value} {off n : Nat} (h : FVRs Φ l g off) : FVRs Φ (l.drop n) g (off + n) := by
 refine FVRs_iff.2 fun i x hi => ?_
 rw [List.getElem?_drop] at hi
 have := FVRs_get h hi
 rwa [← Nat.add_assoc] at this
theorem fieldAddrA_ok {t : TypeId} {f : Nat} {x r : A} {v : Value} (h : fieldAddrA P t x f = some r) (hx : AR Φ ρ H x v) (w : World) :
  ∃ z, (Instr.fieldAt t v f).run P w = .ok z w ∧ AR Φ ρ H r z := by
 unfold fieldAddrA at h
 split at h
 ·rename_i fd hf
  obtain ⟨fs, hu, hfd⟩ := fieldOf_run hf
  split at h
  ·rename_i n hn
   split at h
   ·rename_i cs
    split at h
    ·cases h
     simp only [AR, CR, FVR] at hx
     obtain ⟨c, off, arr, rfl, h1, h2⟩ := hx
     refine ⟨.pointer (some ((⟨c, off, none⟩ : Addr).add fd.offset)), ?_, ?_⟩
     ·simp only [Instr.fieldAt, Sem.run_bind, underlying_run hu, Result.andThen_ok, hfd, Instr.sureAddr, Sem.run_pure, fieldPlace, szOf_run hn]
      simp
     ·simp only [AR, CR, FVR, addr_add]
      exact ⟨c, _, arr, rfl, h1, FVRs_drop h2⟩
    ·cases h
   ·rename_i b sz i o
    cases h
    simp only [AR, CR] at hx
    obtain ⟨p, rfl, hb, h1⟩ := hx
    refine ⟨.pointer (some (p.add fd.offset)), ?_, ?_⟩
    ·simp only [Instr.fieldAt, Sem.run_bind, underlying_run hu, Result.andThen_ok, hfd, Instr.sureAddr, Sem.run_pure, fieldPlace, szOf_run hn]
     simp
    ·simp only [AR, CR]
     refine ⟨_, rfl, hb, fun k hk => ?_⟩
     obtain ⟨h2, inf, h3, rfl⟩ := h1 k hk
     exact ⟨h2, inf, h3, by rw [addr_add]; simp only [Nat.add_assoc]⟩
   ·cases h
  ·cases h
 ·cases h
theorem fieldA_ok {t : TypeId} {f : Nat} {x r : A} {v : Value} (h : fieldA P t x f = some r) (hx : AR Φ ρ H x v) (w : World) :
  ∃ z, (Instr.field t v f).run P w = .ok z w ∧ AR Φ ρ H r z := by
 unfold fieldA at h
 split at h
 ·rename_i fd hf
  obtain ⟨fs, hu, hfd⟩ := fieldOf_run hf
  split at h
  ·rename_i g n hg hn
   split at h
   ·simp only [AR] at hx
    obtain ⟨arr, rfl, h1, h2⟩ := hx
    obtain ⟨z, hz, hr⟩ := part_ok (ρ := ρ) (H := H) hg hn h h1 h2 w
    refine ⟨z, ?_, hr⟩
    simp only [Instr.field, Sem.run_bind, underlying_run hu, Result.andThen_ok, hfd, asAgg, Sem.run_pure]
    exact hz
   ·simp only [AR] at hx
    obtain ⟨arr, rfl, h1, h2⟩ := hx
    obtain ⟨z, hz, hr⟩ := part_ok (ρ := ρ) (H := H) hg hn h h1 h2 w
    refine ⟨z, ?_, hr⟩
    simp only [Instr.field, Sem.run_bind, underlying_run hu, Result.andThen_ok, hfd, asAgg, Sem.run_pure]
    exact hz
   ·cases h
  ·cases h
 ·cases h
end Go.Ev

import Derived.Test.YtfjpaakonepafaaEvSil2
set_option linter.all false
namespace Go.Ev
variable [Glo]
set_option linter.unusedSimpArgs false
variable {P : Program} {Φ : Phi} {ρ : Rho} {H : Heap} {s : List A} {a : Act}
theorem elemT_under {t e : TypeId} (h : elemT P t = some e) : P.underlying t = some (.slice e) := by
 unfold elemT at h
 split at h
 ·rename_i hu; cases h; exact hu
 ·cases h
theorem indexAddrA_ok {t : TypeId} {x ix r : A} {v u : Value} (h : indexAddrA P t x ix = some r) (hx : AR Φ ρ H x v) (hi : AR Φ ρ H ix u) (w : World) :
  ∃ z, (Instr.indexAt t v u).run P w = .ok z w ∧ AR Φ ρ H r z := by
 unfold indexAddrA at h
 split at h
 ·rename_i e k n he
  have hu := elemT_under he
  simp only [AR, CR, FVR] at hi; subst hi
  split at h
  ·rename_i sz' sz els cap hsz
   split at h
   ·rename_i hc
    obtain ⟨rfl, hn⟩ := hc
    split at h
    ·rename_i cs hcs
     cases h
     simp only [AR, CR, FVR] at hx
     obtain ⟨p, kk, rfl, h1, h0, h2⟩ := hx
     have hlt : n.toNat < els.length := (List.getElem?_eq_some_iff.1 hcs).1
     rcases h2 with h2 | ⟨c, off, arr, rfl, h3, h4⟩
     ·subst h2; simp at hlt
     ·refine ⟨.pointer (some ((⟨c, off, none⟩ : Addr).add (n.toNat * sz'))), ?_, ?_⟩
      ·simp only [Instr.indexAt, asIntOf, Sem.run_bind, Sem.run_pure, underlying_run hu, Result.andThen_ok]
       rw [if_pos (by omega)]
       simp [szOf_run hsz]
      ·simp only [AR, CR, FVR, addr_add]
       exact ⟨c, _, arr, rfl, h3, ((FVRe_iff.1 h4) _ _ hcs).2⟩
    ·cases h
   ·cases h
  ·rename_i sz' b sz i m cap hsz
   split at h
   ·rename_i hc
    subst hc
    split at h
    ·rename_i hn
     cases h
     simp only [AR, CR] at hx
     obtain ⟨p, kk, rfl, h1, hp, hb, h2⟩ := hx
     cases p with
     | none => exact absurd rfl (hp (by omega))
     | some ad =>
      refine ⟨.pointer (some (ad.add (n.toNat * sz'))), ?_, ?_⟩
      ·simp only [Instr.indexAt, asIntOf, Sem.run_bind, Sem.run_pure, underlying_run hu, Result.andThen_ok]
       rw [if_pos (by omega)]
       simp [szOf_run hsz]
      ·simp only [AR, CR]
       refine ⟨_, rfl, hb, fun k hk => ?_⟩
       obtain ⟨h3, h4, h5, h6⟩ := h2 k hk
       refine ⟨h3, ?_⟩
       rcases h6 with h6 | ⟨inf, h6, h7, h8⟩
       ·omega
       ·refine ⟨inf, h6, ?_⟩
        cases h7
        rw [addr_add]
        simp only [Nat.add_mul, Nat.add_assoc, Nat.add_zero]
    ·cases h
   ·cases h
  ·rename_i sz' b sz m hsz
   split at h
   ·rename_i hc
    subst hc
    split at h
    ·rename_i hn
     cases h
     simp only [AR, CR] at hx
     obtain ⟨p, kk, rfl, h1, hp, hb, h2⟩ := hx
     cases p with
     | none => exact absurd rfl (hp (by omega))
     | some ad =>
      refine ⟨.pointer (some (ad.add (n.toNat * sz'))), ?_, ?_⟩
      ·simp only [Instr.indexAt, asIntOf, Sem.run_bind, Sem.run_pure, underlying_run hu, Result.andThen_ok]
       rw [if_pos (by omega)]
       simp [szOf_run hsz]
      ·simp only [AR, CR]
       refine ⟨_, rfl, hb, fun k hk => ?_⟩
       obtain ⟨h3, h4, h6⟩ := h2 k hk
       refine ⟨h3, ?_⟩
       rcases h6 with h6 | ⟨inf, h6, h7, h8⟩
       ·omega
       ·refine ⟨inf, h6, ?_⟩
        cases h7
        rw [addr_add]
        simp
    ·cases h
   ·cases h
  ·cases h
 ·cases h
theorem indexA_ok {t : TypeId} {x ix r : A} {v u : Value} (h : indexA P t x ix = some r) (hx : AR Φ ρ H x v) (hi : AR Φ ρ H ix u) (w : World) :
  ∃ z, (Instr.index t v u).run P w = .ok z w ∧ AR Φ ρ H r z := by
 unfold indexA at h
 split at h
 ·rename_i str k n hu
  simp only [AR, CR, FVR] at hx hi; subst hx; subst hi
  split at h
  ·rename_i hn
   split at h
   ·rename_i b hb
    cases h
    refine ⟨.int .u8 b.toNat, ?_, by simp [AR, CR, FVR]⟩
    simp only [Instr.index, asIntOf, Sem.run_bind, Sem.run_pure, underlying_run hu, Result.andThen_ok, if_pos hn]
    rw [hb]; rfl
   ·cases h
  ·cases h
 ·cases h
theorem natA_ok {x : A} {v : Value} {l : Nat} (h : natA x = some l) (hx : AR Φ ρ H x v) : ∃ k n, v = .int k n ∧ 0 ≤ n ∧ n.toNat = l := by
 unfold natA at h
 split at h
 ·split at h
  ·cases h
   simp only [AR, CR, FVR] at hx
   exact ⟨_, _, hx, ‹_›, rfl⟩
  ·cases h
 ·cases h
theorem sliceBound_run {k : IntKind} {n : Int} {l y : Nat} {c : BoundsCode} (h0 : 0 ≤ n) (h1 : n.toNat = l) (h2 : l ≤ y) (w : World) :
  (Instr.sliceBound (.int k n) y c).run P w = .ok l w := by
 simp only [Instr.sliceBound, asIntOf, Sem.run_bind, Sem.run_pure, Result.andThen_ok]
 rw [if_pos (by omega)]
 simp [h1]
theorem bnd_ok {lo hi mx : Option Operand} {len cap l h : Nat} {m : Option Nat} {isS : Bool} (hb : bnd s lo hi mx len = some (l, h, m)) (hs : SR Φ ρ H s a.tmps)
  (h1 : l ≤ h) (h2 : h ≤ cap) (h3 : ∀ k, m = some k → h ≤ k ∧ k ≤ cap) (w : World) :
  (Instr.sliceBounds isS len cap (lo.map a.eval) (hi.map a.eval) (mx.map a.eval)).run P w = .ok (l, h, m.getD cap) w ∧ (mx = none ↔ m = none) := by
 unfold bnd at hb
 split at hb
 ·rename_i l' h' hl hh
  have lo_run : ∀ (y m' : Nat) (c : BoundsCode), l' ≤ y → ((match lo.map a.eval with
    | some v => do let l ← Instr.sliceBound v y c; pure (l, y, m')
    | none => do let l ← pure 0; pure (l, y, m') : Sem (Nat × Nat × Nat))).run P w = .ok (l', y, m') w := by
   intro y m' c hy
   cases lo with
   | none => simp at hl; subst hl; rfl
   | some x =>
    obtain ⟨k, n, e1, e2, e3⟩ := natA_ok hl (opd_ok hs x)
    simp only [Option.map_some, e1, Sem.run_bind]
    rw [sliceBound_run e2 e3 hy]
    rfl
  cases mx with
  | none =>
   simp only [Option.some.injEq, Prod.mk.injEq] at hb
   obtain ⟨rfl, rfl, rfl⟩ := hb
   refine ⟨?_, by simp⟩
   simp only [Instr.sliceBounds, Option.map_none, Sem.run_bind, Sem.run_pure, Result.andThen_ok, Option.getD_none]
   cases hi with
   | none =>
    simp at hh; subst hh
    simp only [Option.map_none, Sem.run_bind, Sem.run_pure, Result.andThen_ok, Option.isSome_none, Bool.false_eq_true, if_false]
    exact lo_run _ _ _ h1
   | some x =>
    obtain ⟨k, n, e1, e2, e3⟩ := natA_ok hh (opd_ok hs x)
    simp only [Option.map_some, e1, Sem.run_bind]
    rw [sliceBound_run e2 e3 h2]
    simp only [Result.andThen_ok, Option.isSome_none, Bool.false_eq_true, if_false]
    exact lo_run _ _ _ h1
  | some xm =>
   cases hi with
   | none => cases hb
   | some x =>
    simp only [Option.map_eq_some_iff, Prod.mk.injEq] at hb
    obtain ⟨m', hm, rfl, rfl, rfl⟩ := hb
    obtain ⟨g1, g2⟩ := h3 m' rfl
    refine ⟨?_, by simp⟩
    obtain ⟨k, n, e1, e2, e3⟩ := natA_ok hh (opd_ok hs x)
    obtain ⟨k', n', f1, f2, f3⟩ := natA_ok hm (opd_ok hs xm)
    simp only [Instr.sliceBounds, Option.map_some, e1, f1, Sem.run_bind]
    rw [sliceBound_run f2 f3 g2]
    simp only [Result.andThen_ok, Sem.run_bind]
    rw [sliceBound_run e2 e3 g1]
    simp only [Result.andThen_ok, Option.isSome_some, if_true]
    exact lo_run _ _ _ h1
 ·cases hb
theorem sliceAt_slice {t e : TypeId} (hu : P.underlying t = some (.slice e)) (x : Value) (lo hi mx : Option Value) (w : World) :
  (Instr.sliceAt t x lo hi mx).run P w = (Instr.slice t x lo hi mx).run P w := by
 simp only [Instr.sliceAt, Sem.run_bind, underlying_run hu, Result.andThen_ok]
theorem sliceA_ok {t : TypeId} {x r : A} {v : Value} {lo hi mx : Option Operand} (h : sliceA P t s x lo hi mx = some r) (hs : SR Φ ρ H s a.tmps) (hx : AR Φ ρ H x v) (w : World) :
  ∃ z, (Instr.sliceAt t v (lo.map a.eval) (hi.map a.eval) (mx.map a.eval)).run P w = .ok z w ∧ AR Φ ρ H r z := by
 unfold sliceA at h
 split at h
 ·rename_i str hu
  simp only [AR, CR, FVR] at hx; subst hx
  split at h
  ·rename_i l h' hb
   split at h
   ·rename_i hc
    cases h
    obtain ⟨e1, e2⟩ := bnd_ok (P := P) (isS := false) hb hs hc.1 hc.2 (by simp) w
    refine ⟨.string (str.extract l h'), ?_, by simp [AR, CR, FVR]⟩
    simp only [Instr.sliceAt, Instr.slice, Sem.run_bind, underlying_run hu, Result.andThen_ok]
    have : mx = none := e2.2 rfl
    subst this
    simp only [Option.map_none, Option.isSome_none, Bool.false_eq_true, if_false, Sem.run_pure, Sem.run_bind, Result.andThen_ok]
    simp only [Option.map_none] at e1
    rw [e1]; rfl
   ·cases h
  ·cases h
 ·rename_i e sz els cap hu
  simp only [AR, CR, FVR] at hx
  obtain ⟨p, k, rfl, hk, h0, hp⟩ := hx
  have run_ : ∀ {sz' l h' : Nat} {m : Option Nat}, szOf P e = some sz' → bnd s lo hi mx els.length = some (l, h', m) → l ≤ h' → h' ≤ els.length → (∀ q, m = some q → h' ≤ q ∧ q ≤ k) →
    (Instr.sliceAt t (.slice p els.length k) (lo.map a.eval) (hi.map a.eval) (mx.map a.eval)).run P w = .ok (.slice (if m.getD k = l then p else p.map (·.add (l * sz'))) (h' - l) (m.getD k - l)) w := by
   intro sz' l h' m hsz hb c1 c2 c3
   obtain ⟨e1, e2⟩ := bnd_ok (P := P) (isS := true) hb hs c1 (Nat.le_trans c2 hk.1) c3 w
   rw [sliceAt_slice hu]
   simp only [Instr.slice, Sem.run_bind, underlying_run hu, Result.andThen_ok]
   rw [e1]
   simp only [Sem.run_bind, Result.andThen_ok, szOf_run hsz]
   rfl
  have rel_ : ∀ {sz' l h' : Nat} {m cap' : Option Nat}, (sz' = sz ∨ sz = 0) → l ≤ h' → h' ≤ els.length → (∀ q, m = some q → h' ≤ q ∧ q ≤ k) → capOk cap' (h' - l) (m.getD k - l) → (cap' ≠ none → cap ≠ none ∨ 0 < els.length) →
    AR Φ ρ H (.c (.v (.sl sz ((els.take h').drop l) cap'))) (.slice (if m.getD k = l then p else p.map (·.add (l * sz'))) (h' - l) (m.getD k - l)) := by
   intro sz' l h' m cap' hz c1 c2 c3 c4 c5
   simp only [AR, CR, FVR]
   have hlen : ((els.take h').drop l).length = h' - l := by simp; omega
   refine ⟨_, _, by rw [hlen], by rw [hlen]; exact c4, ⟨fun hz0 => by simp [h0.1 hz0], fun hn => ?_⟩, ?_⟩
   ·have hpn : (if m.getD k = l then p else p.map (·.add (l * sz'))) = none ↔ p = none := by split <;> simp
    rw [hpn]
    rcases c5 hn with h | h
    ·exact h0.2 h
    ·rcases hp with hp | ⟨c, off, arr, rfl, _⟩
     ·simp [hp] at h
     ·constructor
      ·intro hh; cases hh
      ·intro hh; simp [h0.1 hh] at h
   rcases hp with hp | ⟨c, off, arr, rfl, h3, h4⟩
   ·left; simp [hp]
   ·by_cases hml : m.getD k = l
    ·left
     have hge : h' ≤ m.getD k := by
      cases m with
      | none => simpa using Nat.le_trans c2 hk.1
      | some q => simpa using (c3 q rfl).1
     exact List.eq_nil_of_length_eq_zero (by omega)
    ·by_cases hz0 : sz = 0
     ·left; simp [h0.1 hz0]
     ·right
      have hz' : sz' = sz := hz.resolve_right hz0
      subst hz'
      refine ⟨c, off + l * sz', arr, by simp [hml, addr_add], h3, FVRe_iff.2 fun i q hq => ?_⟩
      rw [List.getElem?_drop, List.getElem?_take] at hq
      split at hq
      ·have := (FVRe_iff.1 h4) _ _ hq
       rwa [Nat.add_mul, ← Nat.add_assoc] at this
      ·cases hq
  split at h
  ·rename_i sz' l h' m hsz hb
   split at h
   ·rename_i hc
    obtain ⟨hz, c1, c2⟩ := hc
    split at h
    ·cases h
     refine ⟨_, run_ hsz hb c1 c2 (by simp), ?_⟩
     exact rel_ (m := none) hz c1 c2 (by simp) ⟨by simp only [Option.getD_none]; have := hk.1; omega, fun q hq => by
      cases hcap : cap with
      | none => simp [hcap] at hq
      | some c => simp [hcap] at hq; have := hk.2 c hcap; simp; omega⟩ (fun hn => .inl (by cases cap <;> simp_all))
    ·rename_i q
     split at h
     ·rename_i hc
      cases h
      have hq : ∀ q', some q = some q' → h' ≤ q' ∧ q' ≤ k := fun q' hq' => by cases hq'; have := hk.1; omega
      refine ⟨_, run_ hsz hb c1 c2 hq, ?_⟩
      exact rel_ (m := some q) hz c1 c2 hq ⟨by simp; omega, fun q' hq' => by simp at hq' ⊢; omega⟩ (fun _ => hc.2.2)
     ·cases h
   ·cases h
  ·cases h
 ·rename_i e b sz i n cap hu
  simp only [AR, CR] at hx
  obtain ⟨p, k, rfl, hk, hpn, hbl, hp⟩ := hx
  have run_ : ∀ {l h' : Nat} {m : Option Nat}, szOf P e = some sz → bnd s lo hi mx n = some (l, h', m) → l ≤ h' → h' ≤ n → (∀ q, m = some q → h' ≤ q ∧ q ≤ k) →
    (Instr.sliceAt t (.slice p n k) (lo.map a.eval) (hi.map a.eval) (mx.map a.eval)).run P w = .ok (.slice (if m.getD k = l then p else p.map (·.add (l * sz))) (h' - l) (m.getD k - l)) w := by
   intro l h' m hsz hb c1 c2 c3
   obtain ⟨e1, e2⟩ := bnd_ok (P := P) (isS := true) hb hs c1 (Nat.le_trans c2 hk.1) c3 w
   rw [sliceAt_slice hu]
   simp only [Instr.slice, Sem.run_bind, underlying_run hu, Result.andThen_ok]
   rw [e1]
   simp only [Sem.run_bind, Result.andThen_ok, szOf_run hsz]
   rfl
  have rel_ : ∀ {l h' : Nat} {m cap' : Option Nat}, l ≤ h' → h' ≤ n → (∀ q, m = some q → h' ≤ q ∧ q ≤ k) → capOk cap' (h' - l) (m.getD k - l) → (cap' = none → cap = none ∧ m = none) → (cap' ≠ none → cap ≠ none ∨ 0 < n) →
    AR Φ ρ H (.c (.sl b sz (i + l) (h' - l) cap')) (.slice (if m.getD k = l then p else p.map (·.add (l * sz))) (h' - l) (m.getD k - l)) := by
   intro l h' m cap' c1 c2 c3 c4 c5 c6
   simp only [AR, CR]
   have hge : h' ≤ m.getD k := by
    cases m with
    | none => simpa using Nat.le_trans c2 hk.1
    | some q => simpa using (c3 q rfl).1
   have hle : m.getD k ≤ k := by
    cases m with
    | none => simp
    | some q => simpa using (c3 q rfl).2
   refine ⟨_, _, rfl, c4, fun h0 => ?_, hbl, fun x hxl => ?_⟩
   ·have := hpn (by rcases h0 with h0 | h0; exact .inl (by omega); exact (c6 h0).symm)
    cases p with
    | none => exact absurd rfl this
    | some ad => split <;> simp
   ·obtain ⟨g1, g2, g3, g4⟩ := hp x hxl
    refine ⟨g1, by omega, fun hn => ?_, ?_⟩
    ·obtain ⟨h6, h7⟩ := c5 hn
     subst h7
     have := g3 h6
     simp; omega
    ·by_cases hml : m.getD k = l
     ·left; omega
     ·right
      rcases g4 with ⟨g4, g5⟩ | ⟨inf, g4, g5, g6⟩
      ·omega
      ·refine ⟨inf, g4, ?_, ?_⟩
       ·simp [hml, g5, addr_add, Nat.add_mul, Nat.add_assoc]
       ·have : (i + l + (m.getD k - l)) * sz ≤ (i + k) * sz := Nat.mul_le_mul_right _ (by omega)
        omega
  split at h
  ·rename_i sz' l h' m hsz hb
   split at h
   ·rename_i hc
    obtain ⟨rfl, c1, c2⟩ := hc
    split at h
    ·cases h
     refine ⟨_, run_ hsz hb c1 c2 (by simp), ?_⟩
     exact rel_ (m := none) c1 c2 (by simp) ⟨by simp only [Option.getD_none]; have := hk.1; omega, fun q hq => by
      cases hcap : cap with
      | none => simp [hcap] at hq
      | some c => simp [hcap] at hq; have := hk.2 c hcap; simp; omega⟩ (fun hn => ⟨by cases cap <;> simp_all, rfl⟩) (fun hn => .inl (by cases cap <;> simp_all))
    ·rename_i q
     split at h
     ·rename_i hc
      cases h
      have hq : ∀ q', some q = some q' → h' ≤ q' ∧ q' ≤ k := fun q' hq' => by cases hq'; have := hk.1; omega
      refine ⟨_, run_ hsz hb c1 c2 hq, ?_⟩
      exact rel_ (m := some q) c1 c2 hq ⟨by simp; omega, fun q' hq' => by simp at hq' ⊢; omega⟩ (fun hn => by cases hn) (fun _ => hc.2.2)
     ·cases h
   ·cases h
  ·cases h
 ·rename_i e b sz n hu
  simp only [AR, CR] at hx
  obtain ⟨p, k, rfl, hk, hpn, hbl, hp⟩ := hx
  have run_ : ∀ {l h' : Nat} {m : Option Nat}, szOf P e = some sz → bnd s lo hi mx n = some (l, h', m) → l ≤ h' → h' ≤ n → (∀ q, m = some q → h' ≤ q ∧ q ≤ k) →
    (Instr.sliceAt t (.slice p n k) (lo.map a.eval) (hi.map a.eval) (mx.map a.eval)).run P w = .ok (.slice (if m.getD k = l then p else p.map (·.add (l * sz))) (h' - l) (m.getD k - l)) w := by
   intro l h' m hsz hb c1 c2 c3
   obtain ⟨e1, e2⟩ := bnd_ok (P := P) (isS := true) hb hs c1 (Nat.le_trans c2 hk) c3 w
   rw [sliceAt_slice hu]
   simp only [Instr.slice, Sem.run_bind, underlying_run hu, Result.andThen_ok]
   rw [e1]
   simp only [Sem.run_bind, Result.andThen_ok, szOf_run hsz]
   rfl
  have rel_ : ∀ {l h' : Nat} {m cap' : Option Nat}, l ≤ h' → h' ≤ n → (∀ q, m = some q → h' ≤ q ∧ q ≤ k) → capOk cap' (h' - l) (m.getD k - l) → (cap' = none → m = none) → (cap' ≠ none → 0 < n) →
    AR Φ ρ H (.c (.sl b sz l (h' - l) cap')) (.slice (if m.getD k = l then p else p.map (·.add (l * sz))) (h' - l) (m.getD k - l)) := by
   intro l h' m cap' c1 c2 c3 c4 c5 c6
   simp only [AR, CR]
   have hge : h' ≤ m.getD k := by
    cases m with
    | none => simpa using Nat.le_trans c2 hk
    | some q => simpa using (c3 q rfl).1
   have hle : m.getD k ≤ k := by
    cases m with
    | none => simp
    | some q => simpa using (c3 q rfl).2
   refine ⟨_, _, rfl, c4, fun h0 => ?_, hbl, fun x hxl => ?_⟩
   ·have := hpn (by rcases h0 with h0 | h0; omega; exact c6 h0)
    cases p with
    | none => exact absurd rfl this
    | some ad => split <;> simp
   ·obtain ⟨g1, g2, g4⟩ := hp x hxl
    refine ⟨g1, by omega, fun hn => ?_, ?_⟩
    ·have h7 := c5 hn
     subst h7
     simp; omega
    ·by_cases hml : m.getD k = l
     ·left; omega
     ·right
      rcases g4 with ⟨g4, g5⟩ | ⟨inf, g4, g5, g6⟩
      ·omega
      ·refine ⟨inf, g4, ?_, ?_⟩
       ·simp [hml, g5, addr_add]
       ·have : (l + (m.getD k - l)) * sz ≤ k * sz := Nat.mul_le_mul_right _ (by omega)
        omega
  split at h
  ·rename_i sz' l h' m hsz hb
   split at h
   ·rename_i hc
    obtain ⟨rfl, c1, c2⟩ := hc
    split at h
    ·cases h
     refine ⟨_, run_ hsz hb c1 c2 (by simp), ?_⟩
     exact rel_ (m := none) c1 c2 (by simp) ⟨by simp only [Option.getD_none]; omega, fun q hq => by cases hq⟩ (fun _ => rfl) (fun hn => absurd rfl hn)
    ·rename_i q
     split at h
     ·rename_i hc
      cases h
      have hq : ∀ q', some q = some q' → h' ≤ q' ∧ q' ≤ k := fun q' hq' => by cases hq'; omega
      refine ⟨_, run_ hsz hb c1 c2 hq, ?_⟩
      exact rel_ (m := some q) c1 c2 hq ⟨by simp; omega, fun q' hq' => by simp at hq' ⊢; omega⟩ (fun hn => by cases hn) (fun _ => hc.2.2)
     ·cases h
   ·cases h
  ·cases h
 ·cases h
end Go.Ev

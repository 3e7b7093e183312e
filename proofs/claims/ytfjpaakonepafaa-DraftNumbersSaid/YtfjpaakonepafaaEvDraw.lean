import Derived.Test.YtfjpaakonepafaaEvRow
import Derived.Orders
set_option linter.all false
namespace Go.Ev
variable [Glo]
set_option linter.unusedSimpArgs false
variable {P : Program} {Φ Φ' : Phi} {ρ ρ' : Rho} {H H' : Heap} {s : List A} {a : Act} {w w' : World}
def RhoLe (ρ ρ' : Rho) : Prop := ∀ b inf, ρ b = some inf → ρ' b = some inf
mutual
theorem CR_rho (e : RhoLe ρ ρ') : ∀ (x : C) (v : Value), CR Φ ρ H x v → CR Φ ρ' H x v
 | .und, _, h => by simpa [CR] using h
 | .v x, v, h => by simpa only [CR] using h
 | .ptr b sz i o, v, h => by
  simp only [CR] at h ⊢
  obtain ⟨a, rfl, hb, h1⟩ := h
  refine ⟨a, rfl, hb, fun k hk => ?_⟩
  obtain ⟨h2, inf, h3, h4⟩ := h1 k hk
  exact ⟨h2, inf, e _ _ h3, h4⟩
 | .sl b sz i n cap, v, h => by
  simp only [CR] at h ⊢
  obtain ⟨p, k, rfl, hc, hp, hb, h1⟩ := h
  refine ⟨p, k, rfl, hc, hp, hb, fun x hx => ?_⟩
  obtain ⟨h2, h3, h4, h5⟩ := h1 x hx
  refine ⟨h2, h3, h4, ?_⟩
  rcases h5 with h5 | ⟨inf, h5, h6, h7⟩
  ·exact .inl h5
  ·exact .inr ⟨inf, e _ _ h5, h6, h7⟩
 | .slw b sz n, v, h => by
  simp only [CR] at h ⊢
  obtain ⟨p, k, rfl, hc, hp, hb, h1⟩ := h
  refine ⟨p, k, rfl, hc, hp, hb, fun x hx => ?_⟩
  obtain ⟨h2, h3, h5⟩ := h1 x hx
  refine ⟨h2, h3, ?_⟩
  rcases h5 with h5 | ⟨inf, h5, h6, h7⟩
  ·exact .inl h5
  ·exact .inr ⟨inf, e _ _ h5, h6, h7⟩
 | .fn f caps, v, h => by
  simp only [CR] at h ⊢
  obtain ⟨arr, rfl, h1, h2⟩ := h
  exact ⟨arr, rfl, h1, CRs_rho e caps _ _ h2⟩
 | .mp b, v, h => by
  simp only [CR] at h ⊢
  obtain ⟨c, rfl, hb, h1⟩ := h
  refine ⟨c, rfl, hb, fun k hk => ?_⟩
  obtain ⟨inf, h3, h4⟩ := h1 k hk
  exact ⟨inf, e _ _ h3, h4⟩
theorem CRs_rho (e : RhoLe ρ ρ') : ∀ (l : List C) (g : Nat → Option Value) (off : Nat), CRs Φ ρ H l g off → CRs Φ ρ' H l g off
 | [], _, _, _ => by simp [CRs]
 | x :: r, g, off, h => by
  simp only [CRs] at h ⊢
  obtain ⟨⟨v, h1, h2⟩, h3⟩ := h
  exact ⟨⟨v, h1, CR_rho e x v h2⟩, CRs_rho e r g _ h3⟩
end
theorem CRe_rho (e : RhoLe ρ ρ') : ∀ (l : List (List C)) (sz : Nat) (g : Nat → Option Value) (off : Nat), CRe Φ ρ H l sz g off → CRe Φ ρ' H l sz g off
 | [], _, _, _, _ => by simp [CRe]
 | x :: r, sz, g, off, h => by
  simp only [CRe] at h ⊢
  exact ⟨h.1, CRs_rho e x _ _ h.2.1, CRe_rho e r _ _ _ h.2.2⟩
mutual
theorem AR_rho (e : RhoLe ρ ρ') : ∀ (x : A) (v : Value), AR Φ ρ H x v → AR Φ ρ' H x v
 | .und, _, _ => by simp [AR]
 | .c x, v, h => by simp only [AR] at h ⊢; exact CR_rho e x v h
 | .agp cs, v, h => by simpa only [AR] using h
 | .agm cs, v, h => by
  simp only [AR] at h ⊢
  obtain ⟨arr, rfl, h1, h2⟩ := h
  exact ⟨arr, rfl, h1, CRs_rho e cs _ _ h2⟩
 | .tup l, v, h => by
  simp only [AR] at h ⊢
  obtain ⟨arr, rfl, h1⟩ := h
  exact ⟨arr, rfl, ARs_rho e l _ h1⟩
theorem ARs_rho (e : RhoLe ρ ρ') : ∀ (l : List A) (vs : List Value), ARs Φ ρ H l vs → ARs Φ ρ' H l vs
 | [], _, h => by simpa [ARs] using h
 | x :: r, vs, h => by
  simp only [ARs] at h ⊢
  obtain ⟨v, l', rfl, h1, h2⟩ := h
  exact ⟨v, l', rfl, AR_rho e x v h1, ARs_rho e r _ h2⟩
end
theorem ELR_rho (e : RhoLe ρ ρ') {x : EL} {sz : Nat} {g : Nat → Option Value} {off : Nat} (h : ELR Φ ρ H x sz g off) : ELR Φ ρ' H x sz g off := by
 cases x with
 | p l => exact h
 | m l => exact CRe_rho e l sz g off h
theorem SR_rho (e : RhoLe ρ ρ') {t : Array Value} (h : SR Φ ρ H s t) : SR Φ ρ' H s t :=
 ⟨h.1, fun i x hx => let ⟨v, hv, ha⟩ := h.2 i x hx; ⟨v, hv, AR_rho e x v ha⟩⟩
theorem upd_le {b : Nat} {x : Option Inf} (h : ρ b = none) : RhoLe ρ (upd ρ b x) := fun b' inf hb => by
 by_cases e : b' = b
 ·subst e; rw [h] at hb; cases hb
 ·rw [upd_ne e]; exact hb
theorem Stp_late {Φ0 : Phi} {ρ0 : Rho} {H0 : Heap} {w0 : World} {b : Nat} {r : A} {k : Blk} {z : Value} {arr : Array Value} {ty : TypeId} {fz : Nat × Nat} (st : Stp Φ0 ρ0 H0 w0 Φ ρ H w) (hb : H0.length ≤ b)
  (hk : live H b = some k) (hρ : ρ b = none) (hm : k.isMp = false) (al : Alo Φ ρ H w w' b r k z arr ty fz) : Stp Φ0 ρ0 H0 w0 Φ (upd ρ b (some ⟨w.heap.size, 0, arr.size⟩)) H w' where
 ext := ⟨st.ext.phi, st.ext.len, fun b' hb' => by rw [upd_ne (by omega)]; exact st.ext.rho b' hb', st.ext.keep⟩
 hr := by
  refine ⟨fun c arr' hc => ?_, fun b' x inf hx hmx hi => ?_, fun b1 b2 k1 k2 i1 i2 l1 l2 r1 r2 e => ?_, st.hr.glo, fun b' kk es inf hx hi => ?_⟩
  ·obtain ⟨ty', fz', h1⟩ := st.hr.fro c arr' hc
   exact ⟨ty', fz', by rw [al.old c (Array.getElem?_eq_some_iff.1 h1).1]; exact h1⟩
  ·by_cases e : b' = b
   ·subst e
    rw [upd_self] at hi; cases hi
    rw [hk] at hx; cases hx
    exact ⟨Phi_fresh st.hr (Nat.le_refl _), arr, ty, fz, al.new, al.fz, rfl, by simpa using al.fit, ELR_rho (upd_le hρ) al.el⟩
   ·rw [upd_ne e] at hi
    obtain ⟨g1, arr', ty', fz', g2, g3, g4, g5, g6⟩ := st.hr.own b' x inf hx hmx hi
    exact ⟨g1, arr', ty', fz', by rw [al.old _ (Array.getElem?_eq_some_iff.1 g2).1]; exact g2, g3, g4, g5, ELR_rho (upd_le hρ) g6⟩
  ·by_cases e1 : b1 = b
   ·by_cases e2 : b2 = b
    ·rw [e1, e2]
    ·subst e1
     rw [upd_self] at r1; cases r1
     rw [upd_ne e2] at r2
     have := rho_old st.hr l2 r2
     simp only at e
     omega
   ·by_cases e2 : b2 = b
    ·subst e2
     rw [upd_self] at r2; cases r2
     rw [upd_ne e1] at r1
     have := rho_old st.hr l1 r1
     simp only at e
     omega
    ·rw [upd_ne e1] at r1
     rw [upd_ne e2] at r2
     exact st.hr.inj b1 b2 k1 k2 i1 i2 l1 l2 r1 r2 e
  ·by_cases e : b' = b
   ·subst e
    rw [hk] at hx; cases hx; cases hm
   ·rw [upd_ne e] at hi
    obtain ⟨g1, l, q, g2, g3⟩ := st.hr.mps b' kk es inf hx hi
    exact ⟨g1, l, q, by rw [al.old _ (Array.getElem?_eq_some_iff.1 g2).1]; exact g2, g3⟩
 fr := fun c hc hf => by rw [al.old c (Nat.lt_of_lt_of_le hc st.sz)]; exact st.fr c hc hf
 ft := by
  rintro c ⟨b', x, inf, hx, hi, rfl⟩
  by_cases e : b' = b
  ·subst e
   rw [upd_self] at hi; cases hi
   exact .inr st.sz
  ·rw [upd_ne e] at hi
   exact st.ft _ ⟨b', x, inf, hx, hi, rfl⟩
 fz := st.fz
 sz := Nat.le_trans st.sz al.sz
 io := st.io.trans al.io
section
variable {cf : Callees} {ops : Array Oper} {es : List En} {st st' : St}
theorem noneff_heap {e : En} (h : EnOk P cf ops e) (he : effAt P ops e.i = false) : e.h' = e.h ∨ ∃ k, e.h' = e.h ++ [some k] := by
 obtain ⟨o, ho, h⟩ := h.op
 rcases h with ⟨_, _, h⟩ | ⟨_, _, _, h⟩
 ·simp only [effAt, ho, Option.map_some, Option.getD_some, isEff, beq_eq_false_iff_ne, ne_eq] at he
  unfold evOp at h
  split at h
  ·simp only [Option.map_eq_some_iff, Prod.mk.injEq] at h
   obtain ⟨_, _, _, h⟩ := h
   exact .inl h.symm
  ·simp only [Option.map_eq_some_iff, Prod.mk.injEq] at h
   obtain ⟨_, _, _, h⟩ := h
   exact .inl h.symm
  ·simp only [Option.map_eq_some_iff, Prod.mk.injEq] at h
   obtain ⟨⟨x, k⟩, _, _, h⟩ := h
   exact .inr ⟨k, h.symm⟩
  ·rename_i hc; exact absurd hc he
  ·rename_i hc; exact .inl (cnv_heap (H' := e.h) hc h (fun _ _ _ h => h)).1
 ·exact .inl h
theorem en_len {e : En} (h : EnOk P cf ops e) : e.h.length ≤ e.h'.length := by
 obtain ⟨o, ho, h⟩ := h.op
 rcases h with ⟨_, _, h⟩ | ⟨_, _, _, h⟩
 ·exact evOp_len h
 ·rw [h]; exact Nat.le_refl _
theorem row_grow (row : Row P cf ops es st st') {q : Nat} (hr : HR Φ ρ (hAt es st'.h q) w) : ∀ d, q + d ≤ es.length → (∀ m e, q ≤ m → m < q + d → es[m]? = some e → effAt P ops e.i = false) →
  ∃ ρ', Stp Φ ρ (hAt es st'.h q) w Φ ρ' (hAt es st'.h (q + d)) w ∧ ∀ b, (hAt es st'.h q).length ≤ b → b < (hAt es st'.h (q + d)).length → ρ' b = none
 | 0, _, _ => ⟨ρ, Stp.refl hr, fun b h1 h2 => by simp only [Nat.add_zero] at h2; omega⟩
 | d + 1, hl, hn => by
  obtain ⟨ρ1, s1, n1⟩ := row_grow row hr d (by omega) (fun m e h1 h2 h3 => hn m e h1 (by omega) h3)
  have hlt : q + d < es.length := by omega
  have he : es[q + d]? = some es[q + d] := List.getElem?_eq_getElem hlt
  have hh := row.next he
  have h0 := hAt_some (H := st'.h) he
  rw [show q + (d + 1) = q + d + 1 from by omega, hh]
  rcases noneff_heap (row.ok he) (hn _ _ (by omega) (by omega) he) with h | ⟨k, h⟩
  ·rw [h, ← h0]; exact ⟨ρ1, s1, n1⟩
  ·rw [h, ← h0]
   refine ⟨_, s1.trans (Stp_new0 s1.hr (Less.refl _)), fun b g1 g2 => ?_⟩
   by_cases e : b = (hAt es st'.h (q + d)).length
   ·rw [e, upd_self]
   ·rw [upd_ne e]
    simp only [List.length_append, List.length_cons, List.length_nil] at g2
    exact n1 b g1 (by omega)
theorem row_len (row : Row P cf ops es st st') {q : Nat} : ∀ d, q + d ≤ es.length → (hAt es st'.h q).length ≤ (hAt es st'.h (q + d)).length
 | 0, _ => Nat.le_refl _
 | d + 1, hl => by
  have he : es[q + d]? = some es[q + d] := List.getElem?_eq_getElem (by omega)
  have h1 := row_len row d (by omega : q + d ≤ es.length)
  rw [hAt_some he] at h1
  rw [show q + (d + 1) = q + d + 1 from by omega, row.next he]
  exact Nat.le_trans h1 (en_len (row.ok he))
theorem row_keep (row : Row P cf ops es st st') {q b : Nat} (hb : b < (hAt es st'.h q).length) : ∀ d, q + d ≤ es.length →
  (∀ m e, q ≤ m → m < q + d → es[m]? = some e → e.ran = true → effAt P ops e.i = true → ∀ o, ops[e.i]? = some o → b ∉ touched P e.s e.h o.op) → live (hAt es st'.h (q + d)) b = live (hAt es st'.h q) b
 | 0, _, _ => rfl
 | d + 1, hl, hn => by
  have ih := row_keep row hb d (by omega) (fun m e h1 h2 => hn m e h1 (by omega))
  have hlt : q + d < es.length := by omega
  have he : es[q + d]? = some es[q + d] := List.getElem?_eq_getElem hlt
  have hlen := row_len row d (by omega : q + d ≤ es.length)
  have h0 := hAt_some (H := st'.h) he
  rw [show q + (d + 1) = q + d + 1 from by omega, row.next he, ← ih, h0]
  rw [h0] at hlen
  have hok := row.ok he
  by_cases hef : effAt P ops es[q + d].i = true
  ·obtain ⟨o, ho, h⟩ := hok.op
   rcases h with ⟨h1, _, h⟩ | ⟨_, _, _, h⟩
   ·have hc : cls P o.op = .eff := by simpa [effAt, ho, isEff] using hef
    have hx : effC P cf es[q + d].s es[q + d].h o.op = some (es[q + d].out, es[q + d].h') := by
     unfold evOp at h
     rw [hc] at h
     exact h
    exact untouched hc hx (by omega) (hn _ _ (by omega) (by omega) he h1 hef o ho)
   ·rw [h]
  ·rcases noneff_heap hok (by simpa using hef) with h | ⟨k, h⟩
   ·rw [h]
   ·rw [h, live_app_lt (by omega)]
theorem next_eff (P : Program) (ops : Array Oper) (es : List En) : ∀ n q, es.length - q ≤ n → q ≤ es.length → ∃ d, q + d ≤ es.length ∧ (∀ m e, q ≤ m → m < q + d → es[m]? = some e → effAt P ops e.i = false) ∧ ∀ e, es[q + d]? = some e → effAt P ops e.i = true
 | 0, q, h1, h2 => ⟨0, by omega, fun m e _ _ _ => by omega, fun e he => by
  have := (List.getElem?_eq_some_iff.1 he).1
  omega⟩
 | n + 1, q, h1, h2 => by
  by_cases hq : q < es.length
  ·by_cases he : effAt P ops es[q].i = true
   ·refine ⟨0, by omega, fun m e _ _ _ => by omega, fun e he' => ?_⟩
    rw [Nat.add_zero, List.getElem?_eq_getElem hq] at he'
    cases he'
    exact he
   ·obtain ⟨d, g1, g2, g3⟩ := next_eff P ops es n (q + 1) (by omega) (by omega)
    refine ⟨d + 1, by omega, fun m e m1 m2 me => ?_, fun e hee => g3 e (by rw [show q + 1 + d = q + (d + 1) from by omega]; exact hee)⟩
    by_cases hm : m = q
    ·subst hm
     rw [List.getElem?_eq_getElem hq] at me
     cases me
     simpa using he
    ·exact g2 m e (by omega) (by omega) me
  ·exact ⟨0, by omega, fun m e _ _ _ => by omega, fun e he => by
    have := (List.getElem?_eq_some_iff.1 he).1
    omega⟩
end
def foldL (ops : Array Oper) (es : List En) (L : Nat → Bool) (s : List A) : List A := (es.filter fun e => L e.i).foldl (enPut ops) s
theorem foldL_len {ops : Array Oper} {es : List En} {L : Nat → Bool} : (foldL ops es L s).length = s.length := fold_len
theorem foldL_get {ops : Array Oper} {es : List En} {L : Nat → Bool} {t : Nat} : (foldL ops es L s)[t]? = ((es.filter fun e => L e.i && dstOf ops e.i == some t).foldl (enPut ops) s)[t]? := by
 unfold foldL
 rw [fold_filter, List.filter_filter]
 congr 3
 funext e
 rw [Bool.and_comm]
theorem split_at {es : List En} {m : Nat} {e : En} (h : es[m]? = some e) : es = es.take m ++ e :: es.drop (m + 1) := by
 obtain ⟨hlt, rfl⟩ := List.getElem?_eq_some_iff.1 h
 rw [← List.drop_eq_getElem_cons hlt, List.take_append_drop]
theorem mem_take {es : List En} {m : Nat} {e : En} (h : e ∈ es.take m) : ∃ m', m' < m ∧ es[m']? = some e := by
 obtain ⟨i, hi, h⟩ := List.mem_iff_getElem.1 h
 simp only [List.length_take] at hi
 refine ⟨i, by omega, ?_⟩
 rw [List.getElem_take] at h
 rw [List.getElem?_eq_getElem (by omega), h]
theorem mem_drop {es : List En} {m : Nat} {e : En} (h : e ∈ es.drop m) : ∃ m', m ≤ m' ∧ es[m']? = some e := by
 obtain ⟨i, hi, h⟩ := List.mem_iff_getElem.1 h
 simp only [List.length_drop] at hi
 refine ⟨m + i, by omega, ?_⟩
 rw [List.getElem_drop] at h
 rw [List.getElem?_eq_getElem (by omega), h]
theorem slot_then {ops : Array Oper} {es : List En} {L : Nat → Bool} {m t : Nat} (h1 : ∀ m' e', m' < m → es[m']? = some e' → dstOf ops e'.i = some t → L e'.i = true)
  (h2 : ∀ m' e', m ≤ m' → es[m']? = some e' → dstOf ops e'.i = some t → L e'.i = false) : (foldL ops es L s)[t]? = ((es.take m).foldl (enPut ops) s)[t]? := by
 rw [foldL_get, fold_filter (es := es.take m)]
 congr 2
 have hs : es = es.take m ++ es.drop m := (List.take_append_drop m es).symm
 generalize hx : es.take m = x at *
 generalize hy : es.drop m = y at *
 rw [hs, List.filter_append]
 have e2 : (y.filter fun e => L e.i && dstOf ops e.i == some t) = [] := by
  rw [List.filter_eq_nil_iff]
  intro e he
  rw [← hy] at he
  obtain ⟨m', hm, hg⟩ := mem_drop he
  intro hc
  simp only [Bool.and_eq_true, beq_iff_eq] at hc
  rw [h2 m' e hm hg hc.2] at hc
  cases hc.1
 rw [e2, List.append_nil]
 refine List.filter_congr fun e he => ?_
 rw [← hx] at he
 obtain ⟨m', hm, hg⟩ := mem_take he
 by_cases hc : dstOf ops e.i = some t
 ·simp [hc, h1 m' e hm hg hc]
 ·have : (dstOf ops e.i == some t) = false := by simpa using hc
  simp [this]
theorem foldL_put {ops : Array Oper} {es : List En} {L L' : Nat → Bool} {m : Nat} {e : En} (he : es[m]? = some e) (hL : L e.i = false) (hL' : ∀ i, L' i = (L i || i == e.i)) (h3 : ∀ m' e', es[m']? = some e' → e'.i = e.i → m' = m)
  (h2 : ∀ m' e' t, m < m' → es[m']? = some e' → dstOf ops e.i = some t → dstOf ops e'.i = some t → L e'.i = false) (t : Nat) : (foldL ops es L' s)[t]? = (enPut ops (foldL ops es L s) e)[t]? := by
 by_cases ht : dstOf ops e.i = some t
 ·have hs := split_at he
  have key : ∀ M : Nat → Bool, (∀ i, M i = L i ∨ i = e.i) → (es.filter fun e => M e.i && dstOf ops e.i == some t) = ((es.take m).filter fun e => L e.i && dstOf ops e.i == some t) ++ ([e].filter fun e => M e.i) := by
   intro M hM
   have ed : ((es.drop (m + 1)).filter fun e => M e.i && dstOf ops e.i == some t) = [] := by
    rw [List.filter_eq_nil_iff]
    intro e' he'
    obtain ⟨m', hm, hg⟩ := mem_drop he'
    intro hc
    simp only [Bool.and_eq_true, beq_iff_eq] at hc
    rcases hM e'.i with h | h
    ·rw [h, h2 m' e' t (by omega) hg ht hc.2] at hc
     cases hc.1
    ·have := h3 m' e' hg h
     omega
   have et : ((es.take m).filter fun e => M e.i && dstOf ops e.i == some t) = (es.take m).filter fun e => L e.i && dstOf ops e.i == some t := by
    refine List.filter_congr fun e' he' => ?_
    obtain ⟨m', hm, hg⟩ := mem_take he'
    rcases hM e'.i with h | h
    ·rw [h]
    ·have := h3 m' e' hg h
     omega
   conv => lhs; rw [hs]
   rw [List.filter_append, List.filter_cons, ed, et]
   simp only [ht, beq_self_eq_true, Bool.and_true, List.filter_cons, List.filter_nil]
  rw [foldL_get, key L' (fun i => by rw [hL' i]; by_cases h : i = e.i <;> simp [h])]
  have e1 : ([e].filter fun e => L' e.i) = [e] := by simp [hL']
  rw [e1, List.foldl_append, List.foldl_cons, List.foldl_nil]
  refine enPut_same ?_
  rw [foldL_get, key L (fun i => .inl rfl)]
  have e2 : ([e].filter fun e => L e.i) = [] := by simp [hL]
  rw [e2, List.append_nil]
 ·rw [enPut_get ht, foldL_get, foldL_get]
  congr 2
  refine List.filter_congr fun e' he' => ?_
  rw [hL']
  by_cases h : e'.i = e.i
  ·have : (dstOf ops e'.i == some t) = false := by rw [h]; simpa using ht
   simp [this]
  ·have : (e'.i == e.i) = false := by simpa using h
   rw [this, Bool.or_false]
end Go.Ev

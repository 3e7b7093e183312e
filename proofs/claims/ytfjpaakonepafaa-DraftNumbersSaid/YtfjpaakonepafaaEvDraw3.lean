import Derived.Test.YtfjpaakonepafaaEvDraw2
set_option linter.all false
namespace Go.Ev
variable [Glo]
set_option linter.unusedSimpArgs false
variable {P : Program} {Φ Φ' : Phi} {ρ ρ' : Rho} {H H' : Heap} {s : List A} {a : Act} {w w' : World}
section
variable {cf : Callees} {ops : Array Oper} {es : List En} {st st' : St} {Φ0 : Phi} {ρ0 : Rho} {w0 : World} {a0 : Act} {L L' : Nat → Bool} {p : Nat}
theorem grown (cx : Ctx P cf ops es st st') {m m' : Nat} {e e' : En} (he : es[m]? = some e) (he' : es[m']? = some e') (hlt : m < m') : e.h'.length ≤ e'.h.length := by
 have g1 := cx.row.next he
 have hl := (List.getElem?_eq_some_iff.1 he').1
 have g2 := row_len cx.row (q := m + 1) (m' - (m + 1)) (by omega)
 rw [show m + 1 + (m' - (m + 1)) = m' from by omega, g1, hAt_some he'] at g2
 exact g2
theorem alo_len {e : En} (h : EnOk P cf ops e) {o : Oper} (ho : ops[e.i]? = some o) (hr : e.ran = true) (hc : cls P o.op = .alo) : ∃ k, e.h' = e.h ++ [some k] ∧ alo P e.s e.h.length o.op = some (e.out, k) := by
 obtain ⟨o2, ho2, hx⟩ := h.op
 rw [ho] at ho2; cases ho2
 rcases hx with ⟨_, _, hx⟩ | ⟨hx, _⟩
 ·unfold evOp at hx
  rw [hc] at hx
  simp only [Option.map_eq_some_iff, Prod.mk.injEq] at hx
  obtain ⟨⟨x, k⟩, h1, h2, hx⟩ := hx
  exact ⟨k, hx.symm, by rw [h1]; simp only at h2; rw [h2]⟩
 ·rw [hr] at hx; cases hx
theorem Inv.late (cx : Ctx P cf ops es st st') (iv : Inv P ops es st st' Φ0 ρ0 w0 a0 L p Φ ρ a w) {m : Nat} {e : En} (he : es[m]? = some e) (hm : m < p) (hr : ∀ j, bit (ancs ops) e.i j = true → L j = true)
  (hL' : ∀ i, L' i = (L i || i == e.i)) {ρ1 : Rho} {a1 : Act} {w1 : World} (stp : Stp Φ0 ρ0 st.h w0 Φ ρ1 (hAt es st'.h p) w1) (sr : SR Φ ρ1 (hAt es st'.h p) (foldL ops es L' st.s) a1.tmps) (df : a1.defers = a.defers)
  (hρ : ∀ b, ρ b = none → ρ1 b = none ∨ (b = e.h.length ∧ e.h.length < e.h'.length)) : Inv P ops es st st' Φ0 ρ0 w0 a0 L' p Φ ρ1 a1 w1 where
 pl := iv.pl
 hi := fun {m' e'} he' hp => by
  rw [hL', iv.hi he' hp, Bool.false_or]
  apply Classical.byContradiction
  intro hc
  simp only [Bool.not_eq_false, beq_iff_eq] at hc
  have := cx.o3 he' he hc
  omega
 lo := fun he' hp hf => by rw [hL', iv.lo he' hp hf]; rfl
 ef := iv.ef
 cl := fun {i j} hi hb => by
  rw [hL'] at hi ⊢
  simp only [Bool.or_eq_true, beq_iff_eq] at hi
  rcases hi with hi | rfl
  ·rw [iv.cl hi hb]; rfl
  ·rw [hr j hb]; rfl
 stp := stp
 un := fun {m' e'} he' hp hu hran o ho hc => by
  rw [hL', Bool.or_eq_false_iff] at hu
  rcases hρ _ (iv.un he' hp hu.1 hran o ho hc) with h | ⟨h1, h2⟩
  ·exact h
  ·exfalso
   obtain ⟨k, hk, _⟩ := alo_len (cx.row.ok he') ho hran hc
   have hk' : e'.h'.length = e'.h.length + 1 := by rw [hk]; simp
   rcases Nat.lt_trichotomy m' m with hlt | rfl | hlt
   ·have := grown cx he' he hlt
    omega
   ·rw [he] at he'; cases he'
    simp at hu
   ·have := grown cx he he' hlt
    omega
 sr := sr
 df := df.trans iv.df
theorem Inv.eff (cx : Ctx P cf ops es st st') (iv : Inv P ops es st st' Φ0 ρ0 w0 a0 L p Φ ρ a w) {e : En} (he : es[p]? = some e) (hr : ∀ j, bit (ancs ops) e.i j = true → L j = true)
  (hL' : ∀ i, L' i = (L i || i == e.i)) {Φ1 : Phi} {ρ1 : Rho} {a1 : Act} {w1 : World} (stp : Stp Φ ρ (hAt es st'.h p) w Φ1 ρ1 (hAt es st'.h (p + 1)) w1) (sr : SR Φ1 ρ1 (hAt es st'.h (p + 1)) (foldL ops es L' st.s) a1.tmps) (df : a1.defers = a.defers) :
  ∃ p' ρ2, Inv P ops es st st' Φ0 ρ0 w0 a0 L' p' Φ1 ρ2 a1 w1 := by
 have hp := (List.getElem?_eq_some_iff.1 he).1
 obtain ⟨d, d1, d2, d3⟩ := next_eff P ops es (es.length - (p + 1)) (p + 1) (Nat.le_refl _) (by omega)
 obtain ⟨ρ2, s2, n2⟩ := row_grow cx.row stp.hr d d1 d2
 have full := (iv.stp.trans stp).trans s2
 refine ⟨p + 1 + d, ρ2, d1, ?_, ?_, fun {e'} he' => d3 e' he', ?_, full, ?_, SR_ext s2.ext sr, df.trans iv.df⟩
 ·intro m' e' he' hp'
  rw [hL', iv.hi he' (by omega), Bool.false_or]
  apply Classical.byContradiction
  intro hc
  simp only [Bool.not_eq_false, beq_iff_eq] at hc
  have := cx.o3 he' he hc
  omega
 ·intro m' e' he' hp' hf
  rw [hL']
  rcases Nat.lt_trichotomy m' p with hlt | rfl | hlt
  ·rw [iv.lo he' hlt hf]; rfl
  ·rw [he] at he'; cases he'; simp
  ·rw [d2 m' e' (by omega) hp' he'] at hf; cases hf
 ·intro i j hi hb
  rw [hL'] at hi ⊢
  simp only [Bool.or_eq_true, beq_iff_eq] at hi
  rcases hi with hi | rfl
  ·rw [iv.cl hi hb]; rfl
  ·rw [hr j hb]; rfl
 ·intro m' e' he' hp' hu hran o ho hc
  rw [hL', Bool.or_eq_false_iff] at hu
  obtain ⟨k, hk, _⟩ := alo_len (cx.row.ok he') ho hran hc
  have hk' : e'.h'.length = e'.h.length + 1 := by rw [hk]; simp
  rcases Nat.lt_trichotomy m' p with hlt | rfl | hlt
  ·have h0 := iv.un he' hlt hu.1 hran o ho hc
   have hg := grown cx he' he hlt
   have h1 : hAt es st'.h p = e.h := hAt_some he
   rw [s2.ext.rho _ (Nat.lt_of_lt_of_le (by rw [h1]; omega) stp.ext.len), stp.ext.rho _ (by rw [h1]; omega)]
   exact h0
  ·rw [he] at he'; cases he'; simp at hu
  ·refine n2 _ ?_ ?_
   ·rw [cx.row.next he]
    exact grown cx he he' hlt
   ·have g1 := cx.row.next he'
    have g2 := row_len cx.row (q := m' + 1) (p + 1 + d - (m' + 1)) (by omega)
    rw [show m' + 1 + (p + 1 + d - (m' + 1)) = p + 1 + d from by omega, g1] at g2
    omega
theorem Inv.step (hcf : CallOk P cf) (cx : Ctx P cf ops es st st') (iv : Inv P ops es st st' Φ0 ρ0 w0 a0 L p Φ ρ a w) {i : Nat} {o : Oper} (ho : ops[i]? = some o) (hu : L i = false) (hr : ∀ j, bit (ancs ops) i j = true → L j = true)
  (hL' : ∀ j, L' j = (L j || j == i)) {Q : Exit → Act → World → Prop} {K : Act → World → Prop} (hK : ∀ p' Φ' ρ' a' w', Inv P ops es st st' Φ0 ρ0 w0 a0 L' p' Φ' ρ' a' w' → K a' w') : wpOp P ops Q i K a w := by
 obtain ⟨m, e, he, rfl⟩ := cx.all i (Array.getElem?_eq_some_iff.1 ho).1
 have hmp : m ≤ p := by
  apply Classical.byContradiction
  intro hn
  have hlt : p < es.length := by have := (List.getElem?_eq_some_iff.1 he).1; omega
  have hp : es[p]? = some es[p] := List.getElem?_eq_getElem hlt
  have h1 := hr _ (cx.o2 hp he (by omega) (iv.ef hp))
  rw [iv.hi hp (Nat.le_refl _)] at h1
  cases h1
 have hfnd := found cx iv he ho hu hr
 have hop : ∀ x ∈ o.op.operands.toList, opd (foldL ops es L st.s) x = opd e.s x := by
  intro x hx
  cases x with
  | tmp t =>
   simp only [opd, List.getD_eq_getElem?_getD]
   rw [hfnd t (names_op hx)]
  | const v => rfl
  | func f => rfl
  | global g => rfl
 have hwa : wantA ops (foldL ops es L st.s) o = wantA ops e.s o := wantA_congr fun j wt d hg hd => hfnd d (names_guard hg hd)
 have hput : ∀ (z : Value) (d : Option Tmp), (a.put d z).defers = a.defers := fun z d => put_defers a d z
 have hmh : ∀ {e0 : En}, es[p]? = some e0 → hAt es st'.h p = e0.h := fun h => hAt_some h
 obtain ⟨o', ho', hcase⟩ := (cx.row.ok he).op
 rw [ho] at ho'; cases ho'
 unfold wpOp
 simp only [ho]
 rcases hcase with ⟨hran, hw, hev⟩ | ⟨hran, hw, hout, hh⟩
 ·have hw' := wantA_ok (hwa.trans hw) iv.sr
  rw [if_pos hw']
  left
  rcases Nat.lt_or_eq_of_le hmp with hlt | heq
  ·-- late
   have hne : effAt P ops e.i = false := by
    cases hx : effAt P ops e.i with
    | false => rfl
    | true => rw [iv.lo he hlt hx] at hu; cases hu
   have hkeep : ∀ b, b < e.h'.length → (∀ o, ops[e.i]? = some o → b ∈ pinned P e.s e.h o.op) → live (hAt es st'.h p) b = live e.h' b := by
    intro b hb hpin
    have hn := cx.row.next he
    have := row_keep cx.row (q := m + 1) (b := b) (by rw [hn]; exact hb) (p - (m + 1)) (by have := iv.pl; omega) (fun m' e' h1 h2 he' hran' hf' o' ho' => ?_)
    ·rw [show m + 1 + (p - (m + 1)) = p from by omega, hn] at this
     exact this
    ·rcases cx.row.pins he he' (by omega) hran hne o ho hran' hf' with h | h
     ·exfalso
      have := iv.cl (iv.lo he' (by omega) hf') h
      rw [hu] at this; cases this
     ·exact h o' ho' b (hpin o ho)
   have hlen := en_len (cx.row.ok he)
   have hop' : ∀ x ∈ o.op.operands.toList, opd e.s x = opd (foldL ops es L st.s) x := fun x hx => (hop x hx).symm
   cases hc : cls P o.op with
   | eff => simp [effAt, ho, isEff, hc] at hne
   | sil =>
    unfold evOp at hev
    rw [hc] at hev
    simp only [Option.map_eq_some_iff, Prod.mk.injEq] at hev
    obtain ⟨x, hx, rfl, _⟩ := hev
    rw [sil_congr hop'] at hx
    obtain ⟨z, h1, h2⟩ := sil_ok hx iv.sr w
    unfold Oper.wp
    rw [h1]
    refine hK p Φ ρ _ _ (iv.late cx he hlt hr hL' iv.stp (listed_put cx iv he ho hu hL' iv.sr h2) (hput _ _) (fun b hb => .inl hb))
   | rdo =>
    unfold evOp at hev
    rw [hc] at hev
    simp only [Option.map_eq_some_iff, Prod.mk.injEq] at hev
    obtain ⟨x, hx, rfl, hh⟩ := hev
    have hx' := rdo_heap (H' := hAt es st'.h p) (n := 0) hc hx (fun b hb k hk => by
     have hbl := live_lt hk
     rw [hkeep b (by omega) (fun o2 ho2 => by rw [ho] at ho2; cases ho2; exact hb), ← hh]
     exact hk)
    rw [rdo_congr hop'] at hx'
    obtain ⟨z, h1, h2⟩ := rdo_ok hx' iv.sr iv.stp.hr
    unfold Oper.wp
    rw [h1]
    refine hK p Φ ρ _ _ (iv.late cx he hlt hr hL' iv.stp (listed_put cx iv he ho hu hL' iv.sr h2) (hput _ _) (fun b hb => .inl hb))
   | cnv =>
    unfold evOp at hev
    rw [hc] at hev
    simp only at hev
    obtain ⟨hh, hx'⟩ := cnv_heap (H' := hAt es st'.h p) hc hev (fun b hb k hk => by
     have hbl := live_lt hk
     have hh := (cnv_heap (H' := e.h) hc hev (fun _ _ _ h => h)).1
     rw [hkeep b (by rw [hh]; exact hbl) (fun o2 ho2 => by rw [ho] at ho2; cases ho2; exact hb), hh]
     exact hk)
    rw [eff_congr hop'] at hx'
    obtain ⟨src, dst, x, hox⟩ := cls_cnv hc
    obtain ⟨_, w1, z, h1, h2, h3⟩ := cnv_ok hox hx' iv.sr iv.stp.hr
    unfold Oper.wp
    rw [h1]
    refine hK p Φ ρ _ _ (iv.late cx he hlt hr hL' (iv.stp.trans h2) (listed_put cx iv he ho hu hL' iv.sr h3) (hput _ _) (fun b hb => .inl hb))
   | alo =>
    obtain ⟨k, hk, hal⟩ := alo_len (cx.row.ok he) ho hran hc
    rw [alo_congr hop'] at hal
    obtain ⟨z, w', arr, ty, fz, h1, al⟩ := alo_core (Φ := Φ) (ρ := ρ) (H := hAt es st'.h p) (w := w) hal iv.sr
    have hρ := iv.un he hlt hu hran o ho hc
    have hk' : live (hAt es st'.h p) e.h.length = some k := by
     rw [hkeep e.h.length (by rw [hk]; simp) (fun o2 ho2 => by rw [ho] at ho2; cases ho2; simp [pinned, hc]), hk]
     exact live_app_new
    have hb0 : st.h.length ≤ e.h.length := by
     have := row_len cx.row (q := 0) m (by have := iv.pl; omega)
     rw [cx.row.start, Nat.zero_add, hAt_some he] at this
     exact this
    unfold Oper.wp
    rw [h1]
    refine hK p Φ _ _ _ (iv.late cx he hlt hr hL' (Stp_late iv.stp hb0 hk' hρ (alo_cel hal) al) (listed_put cx iv he ho hu hL' (SR_rho (upd_le hρ) iv.sr) (al.res _ _ (live_lt hk') hk' upd_self)) (hput _ _) (fun b hb => ?_))
    by_cases hbe : b = e.h.length
    ·exact .inr ⟨hbe, by rw [hk]; simp⟩
    ·exact .inl (by rw [upd_ne hbe]; exact hb)
  ·subst heq
   have hef := iv.ef he
   have hc : cls P o.op = .eff := by simpa [effAt, ho, isEff] using hef
   have hev' : evOp P cf (foldL ops es L st.s) (hAt es st'.h m) o.op = some (e.out, e.h') := by
    rw [hAt_some he]
    unfold evOp at hev ⊢
    rw [hc] at hev ⊢
    simp only at hev ⊢
    rw [effC_congr hop]
    exact hev
   refine evOp_ok hcf hev' iv.sr iv.stp.hr (fun z w' Φ' ρ' stp hz => ?_)
   rw [← cx.row.next he] at stp hz
   obtain ⟨p', ρ2, iv'⟩ := iv.eff cx he hr hL' stp (listed_put cx iv he ho hu hL' (SR_ext stp.ext iv.sr) hz) (hput _ _)
   exact hK _ _ _ _ _ iv'
 ·have hw' := wantA_ok (hwa.trans hw) iv.sr
  rw [if_neg (by simp [hw'])]
  have hz : ∀ (Φ : Phi) (ρ : Rho) (H : Heap), AR Φ ρ H e.out undef := fun Φ ρ H => by rw [hout]; simp only [undA, AR]; exact ⟨#[], rfl, by simp [ARs]⟩
  rcases Nat.lt_or_eq_of_le hmp with hlt | heq
  ·refine hK p Φ ρ _ _ (iv.late cx he hlt hr hL' iv.stp (listed_put cx iv he ho hu hL' iv.sr (hz _ _ _)) (hput _ _) (fun b hb => .inl hb))
  ·subst heq
   have hn := cx.row.next he
   rw [hh, ← hAt_some (H := st'.h) he] at hn
   obtain ⟨p', ρ2, iv'⟩ := iv.eff cx he hr hL' (Φ1 := Φ) (ρ1 := ρ) (w1 := w) (by rw [hn]; exact Stp.refl iv.stp.hr) (by rw [hn]; exact listed_put cx iv he ho hu hL' iv.sr (hz _ _ _)) (hput _ _)
   exact hK _ _ _ _ _ iv'
end
theorem count_less {f g : Nat → Bool} : ∀ {l : List Nat} {i : Nat}, i ∈ l → f i = true → g i = false → (∀ j, g j = true → f j = true) → l.countP g < l.countP f
 | x :: l, i, hi, h1, h2, h3 => by
  have mono : l.countP g ≤ l.countP f := List.countP_mono_left fun j _ h => h3 j h
  rw [List.countP_cons, List.countP_cons]
  rcases List.mem_cons.1 hi with rfl | hi
  ·rw [h1, h2]; simp only [if_true]; split
   ·rename_i h; cases h
   ·omega
  ·have := count_less hi h1 h2 h3
   split
   ·rename_i h; rw [if_pos (h3 x h)]; omega
   ·split <;> omega
theorem any_ok {cf : Callees} {ops : Array Oper} {es : List En} {st st' : St} {Φ0 : Phi} {ρ0 : Rho} {w0 : World} {a0 : Act} {Q : Exit → Act → World → Prop} (hcf : CallOk P cf) (cx : Ctx P cf ops es st st')
  (hQ : ∀ a' w', Goes Φ0 ρ0 st.h a0 w0 st' a' w' → Q .normal a' w') : ∀ (fuel : Nat) (listed : Array Bool) (p : Nat) (Φ : Phi) (ρ : Rho) (a : Act) (w : World), listed.size = ops.size →
  (List.range ops.size).countP (fun i => !listed.getD i false) ≤ fuel → Inv P ops es st st' Φ0 ρ0 w0 a0 (fun i => listed.getD i false) p Φ ρ a w → wpAny P .any ops Q fuel listed a w := by
 intro fuel
 have done : ∀ (listed : Array Bool) (p : Nat) (Φ : Phi) (ρ : Rho) (a : Act) (w : World), (∀ i, i < ops.size → listed.getD i false = true) → Inv P ops es st st' Φ0 ρ0 w0 a0 (fun i => listed.getD i false) p Φ ρ a w → Q .normal a w := by
  intro listed p Φ ρ a w hall iv
  have allL : ∀ (m : Nat) (e : En), es[m]? = some e → listed.getD e.i false = true := by
   intro m e he
   obtain ⟨o, ho, _⟩ := (cx.row.ok he).op
   exact hall _ (Array.getElem?_eq_some_iff.1 ho).1
  have hp : p = es.length := by
   apply Classical.byContradiction
   intro hn
   have hlt : p < es.length := by have := iv.pl; omega
   have he : es[p]? = some es[p] := List.getElem?_eq_getElem hlt
   have := iv.hi he (Nat.le_refl _)
   rw [allL _ _ he] at this; cases this
  subst hp
  have e1 := iv.stp
  have e2 := iv.sr
  rw [hAt_end] at e1 e2
  have e3 : foldL ops es (fun i => listed.getD i false) st.s = st'.s := by
   rw [cx.row.last, foldL]
   congr 1
   rw [List.filter_eq_self]
   intro e he
   obtain ⟨m, hm⟩ := List.mem_iff_getElem?.1 he
   exact allL m e hm
  rw [e3] at e2
  exact hQ a w ⟨Φ, ρ, e1, e2, iv.df⟩
 have stuck : ∀ (listed : Array Bool) (p : Nat) (Φ : Phi) (ρ : Rho) (a : Act) (w : World), listed.size = ops.size → Inv P ops es st st' Φ0 ρ0 w0 a0 (fun i => listed.getD i false) p Φ ρ a w → Region.ready .any ops listed = [] → ∀ i, i < ops.size → listed.getD i false = true := by
  intro listed p Φ ρ a w hsz iv hr
  -- by the place in the row
  have key : ∀ n m : Nat, m ≤ n → ∀ e, es[m]? = some e → listed.getD e.i false = true := by
   intro n
   induction n with
   | zero =>
    intro m hm e he
    apply Classical.byContradiction
    intro hn
    obtain ⟨o, ho, _⟩ := (cx.row.ok he).op
    have hlt := (Array.getElem?_eq_some_iff.1 ho).1
    have hmem : e.i ∈ Region.ready .any ops listed := by
     rw [mem_ready]
     refine ⟨?_, o, ho, fun d hd hb => ?_⟩
     ·simp only [Array.getD_eq_getD_getElem?] at hn ⊢
      rw [Array.getElem?_eq_getElem (by omega)] at hn ⊢
      simpa using hn
     ·exfalso
      have hbit := bit_edge ho hd hb
      obtain ⟨m', e', he', hi'⟩ := cx.all _ (cx.ed ho d hd)
      rw [← hi'] at hbit
      have := cx.o1 he he' hbit
      omega
    rw [hr] at hmem
    simp at hmem
   | succ n ih =>
    intro m hm e he
    apply Classical.byContradiction
    intro hn
    obtain ⟨o, ho, _⟩ := (cx.row.ok he).op
    have hlt := (Array.getElem?_eq_some_iff.1 ho).1
    have hmem : e.i ∈ Region.ready .any ops listed := by
     rw [mem_ready]
     refine ⟨?_, o, ho, fun d hd hb => ?_⟩
     ·simp only [Array.getD_eq_getD_getElem?] at hn ⊢
      rw [Array.getElem?_eq_getElem (by omega)] at hn ⊢
      simpa using hn
     ·have hbit := bit_edge ho hd hb
      obtain ⟨m', e', he', hi'⟩ := cx.all _ (cx.ed ho d hd)
      rw [← hi'] at hbit
      have := cx.o1 he he' hbit
      have := ih m' (by omega) e' he'
      rw [hi'] at this
      exact this
    rw [hr] at hmem
    simp at hmem
  intro i hi
  obtain ⟨m, e, he, rfl⟩ := cx.all i hi
  exact key m m (Nat.le_refl _) e he
 induction fuel with
 | zero =>
  intro listed p Φ ρ a w hsz hc iv
  have hall : ∀ i, i < ops.size → listed.getD i false = true := by
   intro i hi
   have h0 : (List.range ops.size).countP (fun i => !listed.getD i false) = 0 := by omega
   rw [List.countP_eq_zero] at h0
   have := h0 i (by simpa using hi)
   simpa using this
  refine ⟨?_, done listed p Φ ρ a w hall iv⟩
  cases hx : Region.ready .any ops listed with
  | nil => rfl
  | cons x l =>
   have hm : x ∈ Region.ready .any ops listed := by rw [hx]; simp
   rw [mem_ready] at hm
   obtain ⟨h1, o, ho, _⟩ := hm
   have hlt := (Array.getElem?_eq_some_iff.1 ho).1
   have := hall x hlt
   simp only [Array.getD_eq_getD_getElem?] at h1 this
   rw [Array.getElem?_eq_getElem (by omega)] at h1 this
   simp only [Option.getD_some] at h1 this
   rw [h1] at this; cases this
 | succ fuel ih =>
  intro listed p Φ ρ a w hsz hc iv
  refine ⟨fun hr => done listed p Φ ρ a w (stuck listed p Φ ρ a w hsz iv hr) iv, fun i hi => ?_⟩
  rw [mem_ready] at hi
  obtain ⟨h1, o, ho, h2⟩ := hi
  have hlt := (Array.getElem?_eq_some_iff.1 ho).1
  have hu : listed.getD i false = false := by
   simp only [Array.getD_eq_getD_getElem?] at h1 ⊢
   rw [Array.getElem?_eq_getElem (by omega)] at h1 ⊢
   exact h1
  have hset : ∀ j, (listed.setIfInBounds i true).getD j false = (listed.getD j false || j == i) := by
   intro j
   simp only [Array.getD_eq_getD_getElem?, Array.getElem?_setIfInBounds]
   by_cases hj : i = j
   ·subst hj
    rw [if_pos rfl, if_pos (by omega)]
    simp
   ·rw [if_neg hj]
    have : (j == i) = false := by simpa using fun h : j = i => hj h.symm
    rw [this, Bool.or_false]
  refine iv.step hcf cx ho hu (fun j hj => ?_) (L' := fun j => (listed.setIfInBounds i true).getD j false) hset (fun p' Φ' ρ' a' w' iv' => ih _ p' Φ' ρ' a' w' (by simpa using hsz) ?_ iv')
  ·obtain ⟨e, he, hb, hj⟩ := bit_iff ho j hj
   rcases hj with rfl | hj
   ·exact h2 e he hb
   ·exact iv.cl (h2 e he hb) hj
  ·have : (List.range ops.size).countP (fun j => !(listed.setIfInBounds i true).getD j false) < (List.range ops.size).countP (fun j => !listed.getD j false) :=
    count_less (i := i) (by simpa using hlt) (by simp [hu]) (by rw [hset]; simp) (fun j hj => by
     rw [hset] at hj
     simp only [Bool.not_or, Bool.and_eq_true] at hj
     exact hj.1)
   omega
theorem draw_ok (hm : P.follows .mixedOrders = true) : DrawOk P := by
 intro cf hcf id ops Q st st' Φ ρ a w h hs hr hQ
 obtain ⟨es, cx⟩ := ctx_of h
 refine wp_region_any hm ?_
 have hr' : HR Φ ρ st.h { w with drawn := w.drawn + 1 } := ⟨hr.fro, hr.own, hr.inj, hr.glo, hr.mps⟩
 have hQ' : ∀ a' w', Goes Φ ρ st.h a { w with drawn := w.drawn + 1 } st' a' w' → Q .normal a' w' := by
  rintro a' w' ⟨Φ', ρ', g1, g2, g3⟩
  exact hQ a' w' ⟨Φ', ρ', ⟨g1.ext, g1.hr, g1.fr, g1.ft, g1.fz, g1.sz, ⟨g1.io.os, g1.io.tape, g1.io.output⟩⟩, g2, g3⟩
 obtain ⟨d, d1, d2, d3⟩ := next_eff P ops es es.length 0 (by omega) (by omega)
 have hst := cx.row.start
 have hr'' : HR Φ ρ (hAt es st'.h 0) { w with drawn := w.drawn + 1 } := by rw [hst]; exact hr'
 obtain ⟨ρ2, s2, n2⟩ := row_grow cx.row hr'' d d1 d2
 have hL : ∀ i, (Array.replicate ops.size false).getD i false = false := by
  intro i
  simp only [Array.getD_eq_getD_getElem?, Array.getElem?_replicate]
  split <;> rfl
 have e0 : (es.filter fun e => (Array.replicate ops.size false).getD e.i false) = [] := by
  rw [List.filter_eq_nil_iff]
  intro e _
  rw [hL]; simp
 refine any_ok (Φ0 := Φ) (ρ0 := ρ) (w0 := { w with drawn := w.drawn + 1 }) (a0 := a) hcf cx hQ' ops.size (Array.replicate ops.size false) (0 + d) Φ ρ2 a { w with drawn := w.drawn + 1 } (by simp) ?_ ?_
 ·exact Nat.le_trans List.countP_le_length (by simp)
 ·refine ⟨d1, fun _ _ => hL _, fun {m e} he hlt hf => ?_, fun {e} he => d3 e he, fun {i j} h _ => ?_, ?_, ?_, ?_, rfl⟩
  ·rw [d2 m e (by omega) hlt he] at hf; cases hf
  ·rw [hL] at h; cases h
  ·rw [← hst]; exact s2
  ·intro m e he hlt _ hran o ho hc
   obtain ⟨k, hk, _⟩ := alo_len (cx.row.ok he) ho hran hc
   refine n2 _ ?_ ?_
   ·have := row_len cx.row (q := 0) m (by omega)
    rw [Nat.zero_add, hAt_some he] at this
    exact this
   ·have g1 := cx.row.next he
    have g2 := row_len cx.row (q := m + 1) (0 + d - (m + 1)) (by omega)
    rw [show m + 1 + (0 + d - (m + 1)) = 0 + d from by omega, g1, hk] at g2
    simp only [List.length_append, List.length_cons, List.length_nil] at g2
    omega
  ·have : foldL ops es (fun i => (Array.replicate ops.size false).getD i false) st.s = st.s := by
    unfold foldL
    rw [e0]; rfl
   rw [this]
   refine SR_ext s2.ext ?_
   rw [hst]; exact hs
end Go.Ev

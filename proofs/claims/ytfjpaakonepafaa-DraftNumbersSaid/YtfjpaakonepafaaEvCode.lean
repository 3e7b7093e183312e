import Derived.Test.YtfjpaakonepafaaEvGh
import Derived.Test.YtfjpaakonepafaaEvPeek
import Derived.LoopN
set_option linter.all false
namespace Go.Ev
variable [Glo]
set_option linter.unusedSimpArgs false
variable {P : Program} {Φ Φ' : Phi} {ρ ρ' : Rho} {H H' : Heap} {s : List A} {a : Act} {w w' : World}
def DrawOk (P : Program) : Prop := ∀ (cf : Callees), CallOk P cf → ∀ (id : Nat) (ops : Array Oper) (Q : Exit → Act → World → Prop) (st st' : St) (Φ : Phi) (ρ : Rho) (a : Act) (w : World),
 evDraw P cf ops st = some st' → SR Φ ρ st.h st.s a.tmps → HR Φ ρ st.h w → (∀ a' w', Goes Φ ρ st.h a w st' a' w' → Q .normal a' w') → (Code.region id ops true).wp P Q a w
def Ex.to : Ex → Exit
 | .normal => .normal
 | .exit id => .exit id
 | .ret => .ret
def GoesN (np : Nat) (Φ : Phi) (ρ : Rho) (H : Heap) (a : Act) (w : World) (st' : St) (a' : Act) (w' : World) : Prop :=
 ∃ Φ' ρ', StpN np Φ ρ H w Φ' ρ' st'.h w' ∧ SR Φ' ρ' st'.h st'.s a'.tmps ∧ a'.defers = a.defers
def CodeOk (P : Program) (np : Nat) (c : Code) (f : St → Option (Ex × St)) : Prop := ∀ (Q : Exit → Act → World → Prop) (st st' : St) (e : Ex) (Φ : Phi) (ρ : Rho) (a : Act) (w : World), f st = some (e, st') →
 SR Φ ρ st.h st.s a.tmps → HR Φ ρ st.h w → np ≤ st.h.length → (∀ a' w', GoesN np Φ ρ st.h a w st' a' w' → Q e.to a' w') → c.wp P Q a w
theorem GoesN.trans {np : Nat} {st1 st2 : St} {a1 a2 : Act} {w1 w2 : World} {Φ1 : Phi} {ρ1 : Rho} (h : StpN np Φ ρ H w Φ1 ρ1 st1.h w1) (hd : a1.defers = a.defers) (h2 : GoesN np Φ1 ρ1 st1.h a1 w1 st2 a2 w2) :
  GoesN np Φ ρ H a w st2 a2 w2 := by
 obtain ⟨Φ2, ρ2, g1, g2, g3⟩ := h2
 exact ⟨Φ2, ρ2, h.trans g1, g2, g3.trans hd⟩
theorem loop_ok {np : Nat} {c : Code} {f : St → Option (Ex × St)} (hf : CodeOk P np c f) : ∀ (n : Nat) (Q : Exit → Act → World → Prop) (st st' : St) (e : Ex) (Φ : Phi) (ρ : Rho) (a : Act) (w : World), iter f n st = some (e, st') →
  SR Φ ρ st.h st.s a.tmps → HR Φ ρ st.h w → np ≤ st.h.length → (∀ a' w', GoesN np Φ ρ st.h a w st' a' w' → Q e.to a' w') → Code.rounds P c Q n a w
 | 0, _, _, _, _, _, _, _, _, h, _, _, _, _ => by simp [iter] at h
 | n + 1, Q, st, st', e, Φ, ρ, a, w, h, hs, hr, hn, hQ => by
  simp only [iter] at h
  split at h
  ·rename_i st1 h1
   refine hf _ st st1 .normal Φ ρ a w h1 hs hr hn ?_
   rintro a1 w1 ⟨Φ1, ρ1, g1, g2, g3⟩
   simp only [Ex.to, Exit.then]
   exact loop_ok hf n Q st1 st' e Φ1 ρ1 a1 w1 h g2 g1.hr g1.ext.len.2 (fun a2 w2 hg => hQ a2 w2 (hg.trans g1 g3))
  ·rename_i hx
   have he : e ≠ .normal := fun he => hx st' (by rw [h, he])
   refine hf _ st st' e Φ ρ a w h hs hr hn (fun a' w' hg => ?_)
   have := hQ a' w' hg
   cases e with
   | normal => exact absurd rfl he
   | exit id => exact this
   | ret => exact this
theorem evRow_ok {cf : Callees} (hcf : CallOk P cf) {np : Nat} {ops : Array Oper} {Q : Exit → Act → World → Prop} : ∀ {gs : List Gh} {l : List Oper} {st st' : St} {Φ : Phi} {ρ : Rho} {a : Act} {w : World}, evRow P cf np ops gs l st = some st' → SR Φ ρ st.h st.s a.tmps → HR Φ ρ st.h w → np ≤ st.h.length →
  (∀ a' w', GoesN np Φ ρ st.h a w st' a' w' → Q .normal a' w') → wpList P ops Q l a w := by
 intro gs
 induction gs with
 | nil =>
  intro l st st' Φ ρ a w h hs hr hn hQ
  simp only [evRow] at h
  refine evOps_ok hcf h hs hr (fun a' w' hg => ?_)
  obtain ⟨Φ2, ρ2, g1, g2, g3⟩ := hg
  exact hQ a' w' ⟨Φ2, ρ2, g1.toN hn, g2, g3⟩
 | cons g gs ih =>
  intro l st st' Φ ρ a w h hs hr hn hQ
  cases g with
  | stop m =>
   simp only [evRow] at h
   split at h
   ·rename_i st1 h1
    split at h
    ·rename_i st2 h2
     have hl : l = l.take m ++ l.drop m := (List.take_append_drop m l).symm
     rw [hl]
     refine evOps_app hcf h1 hs hr (fun a1 w1 hg => ?_)
     obtain ⟨Φ1, ρ1, g1, g2, g3⟩ := hg
     have n1 := g1.toN hn
     obtain ⟨Φ2, ρ2, s1, r1⟩ := ghosts_ok h2 g2 g1.hr n1.ext.len.2
     refine evOps_ok hcf h r1 s1.hr (fun a' w' hg => ?_)
     obtain ⟨Φ3, ρ3, g4, g5, g6⟩ := hg
     exact hQ a' w' ⟨Φ3, ρ3, (n1.trans s1).trans (g4.toN s1.ext.len.2), g5, g6.trans g3⟩
    ·cases h
   ·cases h
  | peek m n =>
   simp only [evRow] at h
   split at h
   ·rename_i st1 h1
    split at h
    ·rename_i st2 h2
     have hl : l = l.take m ++ ((l.drop m).take n ++ (l.drop m).drop n) := by rw [List.take_append_drop, List.take_append_drop]
     rw [hl]
     refine evOps_app hcf h1 hs hr (fun a1 w1 hg => ?_)
     obtain ⟨Φ1, ρ1, g1, g2, g3⟩ := hg
     have n1 := g1.toN hn
     refine evPeek_ok hcf h2 g2 g1.hr (fun a2 w2 hg => ?_)
     obtain ⟨Φ2, ρ2, g4, g5, g6⟩ := hg
     have n2 := g4.toN n1.ext.len.2
     refine ih h g5 g4.hr n2.ext.len.2 (fun a' w' hg => ?_)
     obtain ⟨Φ3, ρ3, g7, g8, g9⟩ := hg
     exact hQ a' w' ⟨Φ3, ρ3, (n1.trans n2).trans g7, g8, g9.trans (g6.trans g3)⟩
    ·cases h
   ·cases h
  | _ => simp [evRow] at h
theorem evCode_ok (hd : DrawOk P) {cf : Callees} (hcf : CallOk P cf) {ann : Ann} {np n : Nat} : ∀ c : Code, CodeOk P np c (evCode P cf ann np n c) := by
 intro c
 induction c with
 | skip =>
  intro Q st st' e Φ ρ a w h hs hr hn hQ
  simp only [evCode, Option.some.injEq, Prod.mk.injEq] at h
  obtain ⟨rfl, rfl⟩ := h
  exact wp_skip (hQ a w ⟨Φ, ρ, StpN.refl hr hn, hs, rfl⟩)
 | label l =>
  intro Q st st' e Φ ρ a w h hs hr hn hQ
  simp only [evCode, Option.some.injEq, Prod.mk.injEq] at h
  obtain ⟨rfl, rfl⟩ := h
  exact wp_label (hQ a w ⟨Φ, ρ, StpN.refl hr hn, hs, rfl⟩)
 | region id ops d =>
  intro Q st st' e Φ ρ a w h hs hr hn hQ
  simp only [evCode] at h
  split at h
  ·rename_i st1 h1
   obtain ⟨Φ1, ρ1, s1, r1⟩ := ghosts_ok h1 hs hr hn
   split at h
   ·rename_i st2 h2
    simp only [Option.some.injEq, Prod.mk.injEq] at h
    obtain ⟨rfl, rfl⟩ := h
    cases d with
    | true =>
     simp only [if_true, evDrw] at h2
     split at h2
     ·rename_i st3 h3
      have hQ' : ∀ a' w', Goes Φ1 ρ1 st1.h a w st3 a' w' → Q .normal a' w' := by
       rintro a' w' ⟨Φ2, ρ2, g1, g2, g3⟩
       have n2 := s1.trans (g1.toN s1.ext.len.2)
       obtain ⟨Φ3, ρ3, s3, r3⟩ := ghosts_ok h2 g2 n2.hr n2.ext.len.2
       exact hQ a' w' ⟨Φ3, ρ3, n2.trans s3, r3, g3⟩
      exact hd cf hcf id ops Q st1 st3 Φ1 ρ1 a w h3 r1 s1.hr hQ'
     ·cases h2
    | false =>
     refine wp_region_list (evRow_ok hcf h2 r1 s1.hr s1.ext.len.2 (fun a' w' hg => ?_))
     obtain ⟨Φ2, ρ2, g1, g2, g3⟩ := hg
     exact hQ a' w' ⟨Φ2, ρ2, s1.trans g1, g2, g3⟩
   ·cases h
  ·cases h
 | seq x y ihx ihy =>
  intro Q st st' e Φ ρ a w h hs hr hn hQ
  simp only [evCode] at h
  split at h
  ·rename_i st1 h1
   refine wp_seq (ihx _ st st1 .normal Φ ρ a w h1 hs hr hn ?_)
   rintro a1 w1 ⟨Φ1, ρ1, g1, g2, g3⟩
   simp only [Ex.to, Exit.then]
   exact ihy Q st1 st' e Φ1 ρ1 a1 w1 h g2 g1.hr g1.ext.len.2 (fun a2 w2 hg => hQ a2 w2 (hg.trans g1 g3))
  ·rename_i hx
   refine wp_seq (ihx _ st st' e Φ ρ a w h hs hr hn (fun a' w' hg => ?_))
   have := hQ a' w' hg
   cases e with
   | normal => exact absurd h (hx st')
   | exit id => exact this
   | ret => exact this
 | cond c x y ihx ihy =>
  intro Q st st' e Φ ρ a w h hs hr hn hQ
  simp only [evCode] at h
  split at h
  ·rename_i st1 h1
   obtain ⟨Φ1, ρ1, s1, r1⟩ := ghosts_ok h1 hs hr hn
   split at h
   ·rename_i t ht
    have hc := opd_ok r1 c
    rw [ht] at hc
    simp only [AR, CR, FVR] at hc
    refine wp_cond hc ?_
    cases t with
    | true => exact ihx Q st1 st' e Φ1 ρ1 a w h r1 s1.hr s1.ext.len.2 (fun a' w' hg => hQ a' w' (hg.trans s1 rfl))
    | false => exact ihy Q st1 st' e Φ1 ρ1 a w h r1 s1.hr s1.ext.len.2 (fun a' w' hg => hQ a' w' (hg.trans s1 rfl))
   ·cases h
  ·cases h
 | block id x ih =>
  intro Q st st' e Φ ρ a w h hs hr hn hQ
  simp only [evCode] at h
  split at h
  ·rename_i id' st1 h1
   refine wp_block (ih _ st st1 (.exit id') Φ ρ a w h1 hs hr hn (fun a' w' hg => ?_))
   simp only [Ex.to, Exit.inBlock]
   split at h
   ·rename_i hid
    simp only [Option.some.injEq, Prod.mk.injEq] at h
    obtain ⟨rfl, rfl⟩ := h
    rw [if_pos hid]
    exact hQ a' w' hg
   ·rename_i hid
    simp only [Option.some.injEq, Prod.mk.injEq] at h
    obtain ⟨rfl, rfl⟩ := h
    rw [if_neg hid]
    exact hQ a' w' hg
  ·rename_i hx
   refine wp_block (ih _ st st' e Φ ρ a w h hs hr hn (fun a' w' hg => ?_))
   have := hQ a' w' hg
   cases e with
   | normal => exact this
   | exit id' => exact absurd h (hx id' st')
   | ret => exact this
 | loop x ih =>
  intro Q st st' e Φ ρ a w h hs hr hn hQ
  simp only [evCode] at h
  split at h
  ·rename_i e1 st1 h1
   split at h
   ·rename_i st2 h2
    simp only [Option.some.injEq, Prod.mk.injEq] at h
    obtain ⟨rfl, rfl⟩ := h
    refine wp_loop_rounds n (loop_ok ih n Q st st1 e1 Φ ρ a w h1 hs hr hn ?_)
    rintro a' w' ⟨Φ1, ρ1, g1, g2, g3⟩
    obtain ⟨Φ2, ρ2, q1, q2⟩ := ghosts_ok h2 g2 g1.hr g1.ext.len.2
    exact hQ a' w' ⟨Φ2, ρ2, g1.trans q1, q2, g3⟩
   ·cases h
  ·cases h
 | exit id =>
  intro Q st st' e Φ ρ a w h hs hr hn hQ
  simp only [evCode, Option.some.injEq, Prod.mk.injEq] at h
  obtain ⟨rfl, rfl⟩ := h
  exact wp_exit (hQ a w ⟨Φ, ρ, StpN.refl hr hn, hs, rfl⟩)
 | ret =>
  intro Q st st' e Φ ρ a w h hs hr hn hQ
  simp only [evCode, Option.some.injEq, Prod.mk.injEq] at h
  obtain ⟨rfl, rfl⟩ := h
  exact wp_ret (hQ a w ⟨Φ, ρ, StpN.refl hr hn, hs, rfl⟩)
 | rangeFunc => intro Q st st' e Φ ρ a w h; simp [evCode] at h
 | scope => intro Q st st' e Φ ρ a w h; simp [evCode] at h
 | goto => intro Q st st' e Φ ρ a w h; simp [evCode] at h
 | refuse => intro Q st st' e Φ ρ a w h; simp [evCode] at h
def resG (t : Array Value) : ResultVar → Sem Value
 | .tmp x => pure (t.getD x undef)
 | .cell a ty => do loadVar ty (← asAddr (t.getD a undef))
theorem results_G (fn : Func) (t : Array Value) : results fn t = (do
  let vs ← fn.results.mapM (resG t)
  pure (if h : vs.size = 1 then vs[0] else .tuple vs)) := by
 unfold results
 congr 1
theorem loadA_var {t : TypeId} {g : Bool} {n : Nat} {x r : A} {v : Value} (hg : aggT P t = some g) (hn : szOf P t = some n) (h : loadA H g n x = some r) (hx : AR Φ ρ H x v) (hr : HR Φ ρ H w) :
  ∃ a z, v = .pointer (some a) ∧ (loadVar t a).run P w = .ok z w ∧ AR Φ ρ H r z := by
 unfold loadA at h
 split at h
 ·simp only [AR, CR, FVR] at hx
  obtain ⟨c, off, arr, rfl, h1, h2⟩ := hx
  obtain ⟨ty, fz, hw⟩ := hr.fro _ _ h1
  obtain ⟨z, hz⟩ := loadVar_ok (P := P) (ρ := ρ) (H := H) (o := 0) hw hg hn h h2
  exact ⟨_, z, rfl, by simpa using hz⟩
 ·rename_i b _ i o
  simp only [AR, CR] at hx
  obtain ⟨p, rfl, hb, h1⟩ := hx
  split at h
  ·rename_i k hk
   obtain ⟨hs, inf, h2, rfl⟩ := h1 k hk
   split at h
   ·rename_i cl hcl
    obtain ⟨_, arr, ty, fz, hw, _, _, _, he⟩ := hr.own b k inf hk (Blk.cel_at hcl) h2
    obtain ⟨e1, e2, _⟩ := ELR_at he hcl
    obtain ⟨z, hz⟩ := loadVar_ok hw hg hn h e2
    refine ⟨_, z, rfl, ?_⟩
    rw [← hs]
    exact hz
   ·cases h
  ·cases h
 ·cases h
theorem resL_ok {t : Array Value} (hs : SR Φ ρ H s t) (hr : HR Φ ρ H w) : ∀ {l : List ResultVar} {xs : List A}, allSome (resV P s H) l = some xs →
  ∃ vs : List Value, (l.mapM (resG t)).run P w = .ok vs w ∧ ARs Φ ρ H xs vs
 | [], xs, h => by
  simp only [allSome, Option.some.injEq] at h
  subst h
  exact ⟨[], by simp, by simp [ARs]⟩
 | x :: r, xs, h => by
  simp only [allSome] at h
  split at h
  ·rename_i y ys h1 h2
   cases h
   obtain ⟨vs, g1, g2⟩ := resL_ok hs hr h2
   have slot : ∀ i : Nat, AR Φ ρ H (s.getD i .und) (t.getD i undef) := by
    intro i
    by_cases hi : i < s.length
    ·obtain ⟨v, hv, ha⟩ := hs.2 i s[i] (by simp [hi])
     have e1 : s.getD i .und = s[i] := by simp [List.getD_eq_getElem?_getD, hi]
     have e2 : t.getD i undef = v := by simp [Array.getD_eq_getD_getElem?, hv]
     rw [e1, e2]; exact ha
    ·have e1 : s.getD i .und = .und := by simp [List.getD_eq_getElem?_getD, List.getElem?_eq_none (Nat.le_of_not_lt hi)]
     rw [e1]; simp [AR]
   cases x with
   | cell i ty =>
    simp only [resV] at h1
    split at h1
    ·rename_i g n hg hn
     obtain ⟨a, z, q1, q2, q3⟩ := loadA_var hg hn h1 (slot i) hr
     refine ⟨z :: vs, by simp [List.mapM_cons, Sem.run_bind, g1, resG, q1, asAddr, q2], ?_⟩
     simp only [ARs]
     exact ⟨_, _, rfl, q3, g2⟩
    ·cases h1
   | tmp i =>
    cases h1
    refine ⟨t.getD i undef :: vs, by simp [List.mapM_cons, Sem.run_bind, g1, resG], ?_⟩
    simp only [ARs]
    exact ⟨_, _, rfl, slot i, g2⟩
  ·cases h
theorem resOf_ok {fn : Func} {x : A} {t : Array Value} (h : resOf P fn s H = some x) (hs : SR Φ ρ H s t) (hr : HR Φ ρ H w) : ∃ v, (results fn t).run P w = .ok v w ∧ AR Φ ρ H x v := by
 have key : ∀ xs, allSome (resV P s H) fn.results.toList = some xs → ∃ vs : List Value, (results fn t).run P w = .ok (if h : vs.toArray.size = 1 then vs.toArray[0] else .tuple vs.toArray) w ∧ ARs Φ ρ H xs vs := by
  intro xs hx
  obtain ⟨vs, g1, g2⟩ := resL_ok (P := P) (w := w) hs hr hx
  refine ⟨vs, ?_, g2⟩
  rw [results_G, Array.mapM_eq_mapM_toList]
  simp only [Sem.run_bind, Sem.run_map, g1, Result.andThen_ok, Sem.run_pure]
 have h' : (match allSome (resV P s H) fn.results.toList with
  | some [x] => some x
  | some l => some (.tup l)
  | none => none) = some x := by
  rw [← h]
  unfold resOf
  congr 1
 split at h'
 ·rename_i x' hx
  cases h'
  obtain ⟨vs, g1, g2⟩ := key _ hx
  simp only [ARs] at g2
  obtain ⟨v, l', rfl, g3, rfl⟩ := g2
  exact ⟨v, by simpa using g1, g3⟩
 ·rename_i l hx hl
  cases h'
  obtain ⟨vs, g1, g2⟩ := key _ hl
  have : vs.toArray.size ≠ 1 := by
   have h1 := (ARs_iff.1 g2).1
   intro h2
   simp only [List.size_toArray] at h2
   rw [h2] at h1
   obtain ⟨y, hy⟩ := List.length_eq_one_iff.1 h1
   exact hx y hy
  rw [dif_neg this] at g1
  exact ⟨_, g1, by simp only [AR]; exact ⟨_, rfl, g2⟩⟩
 ·cases h'
def PrimOk (P : Program) (prim : FuncId → Option (List A → Heap → Option (A × Heap))) : Prop := ∀ f p, prim f = some p → CallOk P (fun g args h => if g = f then p args h else none)
theorem ARs_len {l : List A} {vs : List Value} (h : ARs Φ ρ H l vs) : l.length = vs.length := (ARs_iff.1 h).1
theorem SR_start {args : List A} {vals : List Value} {n : Nat} (h : ARs Φ ρ H args vals) : SR Φ ρ H (args ++ List.replicate (n - args.length) undA) (vals.toArray ++ Array.replicate (n - vals.toArray.size) undef) := by
 have hl := ARs_len h
 have hu : AR Φ ρ H undA undef := by simp only [undA, AR]; exact ⟨#[], rfl, by simp [ARs]⟩
 refine ⟨by simp [hl], fun i x hx => ?_⟩
 by_cases hi : i < args.length
 ·rw [List.getElem?_append_left hi] at hx
  obtain ⟨v, hv, ha⟩ := (ARs_iff.1 h).2 i x hx
  refine ⟨v, ?_, ha⟩
  rw [Array.getElem?_append_left (by simp; omega)]
  simpa using hv
 ·have hi' : args.length ≤ i := Nat.le_of_not_lt hi
  rw [List.getElem?_append_right hi', List.getElem?_replicate] at hx
  split at hx
  ·rename_i hlt
   cases hx
   refine ⟨undef, ?_, hu⟩
   rw [Array.getElem?_append_right (by simp; omega), Array.getElem?_replicate, if_pos (by simp; omega)]
  ·cases hx
theorem evFun_ok (hd : DrawOk P) {cfg : Cfg} {cf : Callees} (hcf : CallOk P cf) (k : Nat) : CallOk P (evFun P cfg cf k) := by
 intro f args h r h' hc Φ ρ w vals hr ha
 simp only [evFun] at hc
 split at hc
 ·cases hc
 ·rename_i fn hfn
  split at hc
  ·cases hc
  ·rename_i body hb
   split at hc
   ·rename_i e st he
    refine calls_of_wp hfn hb ?_
    refine evCode_ok hd hcf body _ _ st e Φ ρ _ w he (SR_start ha) hr (Nat.le_refl _) ?_
    rintro a' w' ⟨Φ1, ρ1, g1, g2, g3⟩
    have fin : ∀ st', ghosts h.length (cfg.fin f) st = some st' → (resOf P fn st'.s st'.h).map (fun x => leave h.length x st'.h) = some (r, h') →
      a'.defers = [] ∧ ∃ v, (results fn a'.tmps).run P w' = .ok v w' ∧ ∃ v' Φ' ρ', Ending.returned v = .returned v' ∧ Stp Φ ρ h w Φ' ρ' h' w' ∧ AR Φ' ρ' h' r v' := by
     intro st' hg hres
     obtain ⟨Φ2, ρ2, q1, q2⟩ := ghosts_ok hg g2 g1.hr g1.ext.len.2
     obtain ⟨x, hx, hl⟩ := Option.map_eq_some_iff.1 hres
     simp only [leave, Prod.mk.injEq] at hl
     obtain ⟨rfl, rfl⟩ := hl
     obtain ⟨v, hv1, hv2⟩ := resOf_ok (P := P) (w := w') hx q2 q1.hr
     obtain ⟨r1, r2, r3⟩ := roots_ok h.length st'.h x.refs q1.ext.len.2
     refine ⟨g3, v, hv1, v, Φ2, _, rfl, ((g1.trans q1).trans (StpN_sub q1.hr q1.ext.len.2 r1 r3 (roots_len _ _ _))).toS, AR_ren (Rn_sub _) x v hv2⟩
    cases e with
    | exit id => simp at hc
    | normal =>
     cases hg : ghosts h.length (cfg.fin f) st with
     | none => simp [hg] at hc
     | some st' => rw [hg] at hc; exact fin st' hg hc
    | ret =>
     cases hg : ghosts h.length (cfg.fin f) st with
     | none => simp [hg] at hc
     | some st' => rw [hg] at hc; exact fin st' hg hc
   ·cases hc
theorem flatF_phi {x : FV} {v : Value} (h : flatF x = true) (hx : FVR Φ x v) : FVR Φ' x v := by
 cases x <;> simp [flatF] at h <;> simpa only [FVR] using hx
theorem flatAs_ok : ∀ {l : List A} {vs : List Value}, flatAs l = true → ARs Φ ρ H l vs → ARs Φ' ρ' H' l vs
 | [], vs, _, h => by simpa [ARs] using h
 | .c (.v x) :: r, vs, hf, h => by
  simp only [flatAs, Bool.and_eq_true] at hf
  simp only [ARs] at h ⊢
  obtain ⟨v, l', rfl, h1, h2⟩ := h
  refine ⟨v, l', rfl, ?_, flatAs_ok hf.2 h2⟩
  simp only [AR, CR] at h1 ⊢
  exact flatF_phi hf.1 h1
 | .und :: _, _, hf, _ | .agp _ :: _, _, hf, _ | .agm _ :: _, _, hf, _ | .tup _ :: _, _, hf, _ | .c .und :: _, _, hf, _ | .c (.ptr ..) :: _, _, hf, _ | .c (.sl ..) :: _, _, hf, _ | .c (.slw ..) :: _, _, hf, _ | .c (.fn ..) :: _, _, hf, _ => by simp [flatAs] at hf
theorem flatA_ok {a : A} {v : Value} (hf : flatA a = true) (h : AR Φ ρ H a v) : AR Φ' ρ' H' a v := by
 unfold flatA at hf
 split at hf
 ·simp only [AR, CR] at h ⊢
  exact flatF_phi hf h
 ·simp only [AR] at h ⊢
  obtain ⟨arr, rfl, h⟩ := h
  exact ⟨arr, rfl, flatAs_ok hf h⟩
 ·cases hf
theorem frzA_sub (hr : HR Φ ρ H w) {bs0 : List Nat} {x y : A} {bs : List Nat} {v : Value} (h : frzA H x = some (y, bs)) (hbs : ∀ b ∈ bs, b ∈ bs0) (hx : AR Φ ρ H x v) : AR (frzPhi Φ ρ H w bs0) ρ' H' y v := by
 unfold frzA at h
 split at h
 ·simp only [Option.map_eq_some_iff, Prod.mk.injEq] at h
  obtain ⟨⟨y', bs'⟩, h1, rfl, rfl⟩ := h
  simp only [AR] at hx
  simp only [AR, CR]
  exact (frz_ok hr deep).1 _ _ _ _ h1 hbs hx
 ·simp only [Option.some.injEq, Prod.mk.injEq] at h
  obtain ⟨rfl, rfl⟩ := h
  simp only [AR] at hx ⊢
  obtain ⟨arr, rfl, e1, e2⟩ := hx
  exact ⟨arr, rfl, e1, FVRs_phi (fun _ _ h => frzPhi_old hr h) _ _ _ e2⟩
 ·simp only [Option.map_eq_some_iff, Prod.mk.injEq] at h
  obtain ⟨⟨y', bs'⟩, h1, rfl, rfl⟩ := h
  simp only [AR] at hx
  obtain ⟨arr, rfl, e1, e2⟩ := hx
  obtain ⟨e3, e4⟩ := (frz_ok hr deep).2.1 _ _ _ _ _ h1 hbs e2
  simp only [AR]
  exact ⟨arr, rfl, by omega, e4⟩
 ·cases h
theorem frzAs_ok (hr : HR Φ ρ H w) {bs0 : List Nat} : ∀ {l l' : List A} {bs : List Nat} {vs : List Value}, frzAs H l = some (l', bs) → (∀ b ∈ bs, b ∈ bs0) → ARs Φ ρ H l vs → ARs (frzPhi Φ ρ H w bs0) ρ' H' l' vs
 | [], l', bs, vs, h, _, ha => by
  simp only [frzAs, Option.some.injEq, Prod.mk.injEq] at h
  obtain ⟨rfl, rfl⟩ := h
  simpa [ARs] using ha
 | a :: r, l', bs, vs, h, hbs, ha => by
  simp only [frzAs] at h
  split at h
  ·rename_i x bs1 xs bs2 h1 h2
   simp only [Option.some.injEq, Prod.mk.injEq] at h
   obtain ⟨rfl, rfl⟩ := h
   simp only [ARs] at ha ⊢
   obtain ⟨v, l', rfl, g1, g2⟩ := ha
   exact ⟨v, l', rfl, frzA_sub hr h1 (fun b hb => hbs b (by simp [hb])) g1, frzAs_ok hr h2 (fun b hb => hbs b (by simp [hb])) g2⟩
  ·cases h
theorem evCall_ok (hd : DrawOk P) {cfg : Cfg} {prim : FuncId → Option (List A → Heap → Option (A × Heap))} (hp : PrimOk P prim) : ∀ k : Nat, CallOk P (evCall P cfg prim k)
 | 0 => by intro f args h r h' hc; simp [evCall] at hc
 | k + 1 => by
  intro f args h r h' hc Φ ρ w vals hr ha
  simp only [evCall] at hc
  split at hc
  ·rename_i p hpf
   exact hp f p hpf f args h r h' (by simpa using hc) Φ ρ w vals hr ha
  ·split at hc
   ·split at hc
    ·rename_i args' bs hfz
     split at hc
     ·rename_i r1 h1 hev
      split at hc
      ·rename_i hflat
       simp only [Option.some.injEq, Prod.mk.injEq] at hc
       obtain ⟨rfl, rfl⟩ := hc
       have stp := Stp_frz hr bs
       have hr0 : HR (frzPhi Φ ρ h w bs) (fun _ => none) [] w := ⟨stp.hr.fro, fun b k inf hl => by simp [live] at hl, fun b b' k k' inf inf' hl => by simp [live] at hl, stp.hr.glo, fun b kk es inf hl => by simp [live] at hl⟩
       have ha0 : ARs (frzPhi Φ ρ h w bs) (fun _ => none) [] args' vals := frzAs_ok hr hfz (fun _ h => h) ha
       refine (evFun_ok hd (evCall_ok hd hp k) k f args' [] r1 h1 hev _ _ w vals hr0 ha0).mono ?_
       rintro e w' ⟨v, Φ', ρ', rfl, g1, g2⟩
       have same : ∀ c, c < w.heap.size → w'.heap[c]? = w.heap[c]? := fun c hc => g1.fr c hc (by rintro ⟨b, k, inf, hk, _⟩; simp [live] at hk)
       have lt : ∀ {c arr ty fz}, w.heap[c]? = some (.cells arr ty fz) → c < w.heap.size := fun hx => (Array.getElem?_eq_some_iff.1 hx).1
       refine ⟨v, Φ, ρ, rfl, ⟨⟨fun _ _ h => h, Nat.le_refl _, fun _ _ => rfl, fun b k' _ hk => ⟨k', hk, rfl, rfl⟩⟩, ⟨?_, ?_, hr.inj, hr.glo, ?_⟩, fun c hc _ => same c hc, fun c hc => .inl hc, fun c arr hx => .inl hx, g1.sz, g1.io⟩, flatA_ok hflat g2⟩
       ·intro c arr hx
        obtain ⟨ty, fz, hw⟩ := hr.fro c arr hx
        exact ⟨ty, fz, by rw [same c (lt hw)]; exact hw⟩
       ·intro b k inf hk hm hi
        obtain ⟨q1, arr, ty, fz, q2, q3⟩ := hr.own b k inf hk hm hi
        exact ⟨q1, arr, ty, fz, by rw [same _ (lt q2)]; exact q2, q3⟩
       ·intro b kk es inf hk hi
        obtain ⟨q1, l, q, q2, q3⟩ := hr.mps b kk es inf hk hi
        exact ⟨q1, l, q, by rw [same _ (Array.getElem?_eq_some_iff.1 q2).1]; exact q2, q3⟩
      ·cases hc
     ·cases hc
    ·cases hc
   ·exact evFun_ok hd (evCall_ok hd hp k) k f args h r h' hc Φ ρ w vals hr ha
end Go.Ev

import Derived.Test.YtfjpaakonepafaaEvRel
import Derived.Laws.Sem
import Derived.WalkKit
set_option linter.all false
namespace Go.Ev
variable [Glo]
set_option linter.unusedSimpArgs false
variable {P : Program} {Φ : Phi} {ρ : Rho} {H : Heap} {s : List A} {a : Act}
theorem constF_ok : ∀ {v : Value} {x : FV}, constF v = some x → FVR Φ x v := by
  intro v x h
  cases v <;> simp only [constF] at h <;> (try (cases h; done)) <;> (try (cases h; simp [FVR]; done))
  case pointer a =>
    cases a with
    | none => simp only [constF] at h; cases h; simp [FVR]
    | some a => simp only [constF] at h; cases h
  case slice p n k =>
    cases p with
    | some a => simp only [constF] at h; cases h
    | none =>
      simp only [constF] at h
      split at h
      · rename_i hc; obtain ⟨rfl, rfl⟩ := hc; cases h; simp only [FVR]; exact ⟨_, _, rfl, ⟨Nat.le_refl _, by simp⟩, by simp, by simp⟩
      · cases h
  case func fn f c =>
    cases fn <;> simp only [constF] at h <;> (try (cases h; done))
    split at h
    · rename_i hc
      cases h
      obtain ⟨h1, h2⟩ := hc
      have e1 : f = #[] := Array.eq_empty_of_size_eq_zero h1
      subst e1
      exact ⟨c, rfl, by simpa using h2, by simp [FVRs]⟩
    · cases h
theorem allSome_get {α β : Type} {g : α → Option β} : ∀ {l : List α} {r : List β}, allSome g l = some r → l.length = r.length ∧ ∀ (i : Nat) (y : β), r[i]? = some y → ∃ x, l[i]? = some x ∧ g x = some y
  | [], r, h => by simp [allSome] at h; subst h; simp
  | x :: l, r, h => by
    simp only [allSome] at h
    split at h
    · rename_i y ys h1 h2
      cases h
      obtain ⟨e1, e2⟩ := allSome_get h2
      refine ⟨by simp [e1], fun i z hi => ?_⟩
      cases i with
      | zero => simp at hi; subst hi; exact ⟨x, rfl, h1⟩
      | succ i => simpa using e2 i z (by simpa using hi)
    · cases h
theorem constA_ok (v : Value) : AR Φ ρ H (constA v) v := by
  unfold constA
  split
  · split
    · rename_i arr _ l hl
      obtain ⟨e1, e2⟩ := allSome_get hl
      simp only [AR]
      refine ⟨arr, rfl, by simpa using e1, FVRs_iff.2 fun i x hi => ?_⟩
      obtain ⟨u, hu, hx⟩ := e2 i x hi
      exact ⟨u, by simpa using hu, constF_ok hx⟩
    · simp [AR]
  · split
    · rename_i arr h
      simp only [AR]
      exact ⟨arr, rfl, by have := Array.eq_empty_of_size_eq_zero h; subst this; simp [ARs]⟩
    · simp [AR]
  · split
    · rename_i h; simp only [AR, CR]; exact constF_ok h
    · simp [AR]
theorem opd_ok (h : SR Φ ρ H s a.tmps) (x : Operand) : AR Φ ρ H (opd s x) (a.eval x) := by
  cases x with
  | tmp t =>
    simp only [opd, Act.eval, List.getD_eq_getElem?_getD]
    cases hx : s[t]? with
    | none => simp [AR]
    | some y =>
      obtain ⟨v, hv, ha⟩ := h.2 t y hx
      simpa [Array.getD_eq_getD_getElem?, hv] using ha
  | const v => exact constA_ok v
  | global g => simp [opd, AR]
  | func f => simp [opd, AR, CR, FVR, Act.eval, FVRs]
theorem cellsA_ok {x : A} {cl : CL} {v : Value} (h : cellsA x = some cl) (hx : AR Φ ρ H x v) : v.cells.size = cl.len ∧ CLR Φ ρ H cl (v.cells[·]?) 0 := by
  unfold cellsA at h
  split at h
  · cases h
    simp only [AR, CR] at hx
    have h1 := FVR_one hx
    have : v.cells = #[v] := by cases v <;> first | rfl | (simp [Value.oneCell'] at h1)
    rw [this]
    exact ⟨rfl, by simp [CLR, FVRs, hx]⟩
  · rename_i y _
    cases h
    simp only [AR] at hx
    have h1 := CR_one hx
    have : v.cells = #[v] := by cases v <;> first | rfl | (simp [Value.oneCell'] at h1)
    rw [this]
    exact ⟨rfl, by simp [CLR, CRs, hx]⟩
  · cases h
    simp only [AR] at hx
    obtain ⟨arr, rfl, h1, h2⟩ := hx
    exact ⟨h1, h2⟩
  · cases h
    simp only [AR] at hx
    obtain ⟨arr, rfl, h1, h2⟩ := hx
    exact ⟨h1, h2⟩
  · cases h
theorem szOf_run {t : TypeId} {n : Nat} (h : szOf P t = some n) (w : World) : (sizeOf t).run P w = .ok n w := by
  simp only [szOf, Option.map_eq_some_iff] at h
  obtain ⟨i, hi, rfl⟩ := h
  simp [sizeOf, typeInfo, hi]
theorem underlying_run {t : TypeId} {d : TypeDesc} (h : P.underlying t = some d) (w : World) : (underlying t).run P w = .ok d w := by
  simp [underlying, h]
theorem aggT_run {t : TypeId} {g : Bool} (h : aggT P t = some g) (w : World) : (isAgg t).run P w = .ok g w := by
  unfold aggT at h
  cases hu : P.underlying t with
  | none => simp [hu] at h
  | some d =>
    simp only [hu] at h
    simp only [isAgg, Sem.run_bind, underlying_run hu, Result.andThen_ok]
    cases d <;> simp at h <;> subst h <;> rfl
theorem bytesT_info {t : TypeId} {n : Nat} (h : bytesT P t = some n) : ∃ i, P.info? t = some i ∧ i.bytes = n := by
  simpa [bytesT, Option.map_eq_some_iff] using h
theorem part_ok {cl : CL} {arr : Array Value} {t : TypeId} {off n : Nat} {g : Bool} {r : A} (hg : aggT P t = some g) (hn : szOf P t = some n)
    (h : cl.part g off n = some r) (hs : arr.size = cl.len) (hc : CLR Φ ρ H cl (arr[·]?) 0) (w : World) :
    ∃ v, (part t arr off).run P w = .ok v w ∧ AR Φ ρ H r v := by
  simp only [part, Sem.run_bind, aggT_run hg, Result.andThen_ok]
  cases g with
  | true =>
    simp only [if_true, Sem.run_bind, szOf_run hn, Result.andThen_ok]
    cases cl with
    | p l =>
      simp only [CL.part] at h
      split at h
      · rename_i hl
        cases h
        refine ⟨_, rfl, ?_⟩
        simp only [AR]
        simp only [CL.len] at hs
        refine ⟨_, rfl, by simp; omega, FVRs_iff.2 fun i x hi => ?_⟩
        rw [List.getElem?_take] at hi
        split at hi
        · rename_i hlt
          rw [List.getElem?_drop] at hi
          obtain ⟨v, hv, hx⟩ := FVRs_get hc hi
          refine ⟨v, ?_, hx⟩
          simp only [Nat.zero_add] at hv ⊢
          rw [Array.getElem?_extract, if_pos (by omega)]
          exact hv
        · cases hi
      · cases h
    | m l =>
      simp only [CL.part] at h
      split at h
      · rename_i hl
        cases h
        refine ⟨_, rfl, ?_⟩
        simp only [AR]
        simp only [CL.len] at hs
        refine ⟨_, rfl, by simp; omega, CRs_iff.2 fun i x hi => ?_⟩
        rw [List.getElem?_take] at hi
        split at hi
        · rename_i hlt
          rw [List.getElem?_drop] at hi
          obtain ⟨v, hv, hx⟩ := CRs_get hc hi
          refine ⟨v, ?_, hx⟩
          simp only [Nat.zero_add] at hv ⊢
          rw [Array.getElem?_extract, if_pos (by omega)]
          exact hv
        · cases hi
      · cases h
  | false =>
    simp only [Bool.false_eq_true, if_false]
    cases cl with
    | p l =>
      simp only [CL.part, Option.map_eq_some_iff] at h
      obtain ⟨x, hx, rfl⟩ := h
      obtain ⟨v, hv, hr⟩ := FVRs_get hc hx
      simp only [Nat.zero_add] at hv
      rw [hv]
      exact ⟨v, rfl, by simpa [AR, CR] using hr⟩
    | m l =>
      simp only [CL.part, Option.map_eq_some_iff] at h
      obtain ⟨x, hx, rfl⟩ := h
      obtain ⟨v, hv, hr⟩ := CRs_get hc hx
      simp only [Nat.zero_add] at hv
      rw [hv]
      exact ⟨v, rfl, by simpa [AR] using hr⟩
theorem intBin_ok {op : BinOp} {k k' : IntKind} {x y : Int} {r : FV} (h : intBin op k x k' y = some r) (t : TypeId) (w : World) :
    ∃ v, (binOp op t (.int k x) (.int k' y)).run P w = .ok v w ∧ FVR Φ r v := by
  unfold intBin at h
  cases op <;> simp only at h
  case shl | shr =>
    split at h
    · cases h
    · rename_i hy
      cases h
      refine ⟨_, ?_, by simp only [FVR]; rfl⟩
      simp [binOp, Op.shift, hy]
  all_goals
    split at h
    · rename_i hk
      subst hk
      first
        | (cases h; refine ⟨_, ?_, by simp only [FVR]; rfl⟩; simp [binOp, Op.intArith, Op.intBits, Op.intCmp]; done)
        | (split at h
           · cases h
           · rename_i hy
             cases h
             refine ⟨_, ?_, by simp only [FVR]; rfl⟩
             simp [binOp, Op.intDiv, hy]
             done)
    · cases h
theorem strBin_ok {op : BinOp} {x y : ByteArray} {r : FV} (h : strBin op x y = some r) (t : TypeId) (w : World) :
    ∃ v, (binOp op t (.string x) (.string y)).run P w = .ok v w ∧ FVR Φ r v := by
  unfold strBin at h
  cases op <;> simp only at h <;> (try (cases h; done))
  case add =>
    split at h
    · cases h
    · rename_i hy
      cases h
      refine ⟨_, ?_, by simp only [FVR]; rfl⟩
      simp only [binOp, Op.stringOp]
      rw [if_neg hy]; rfl
  all_goals
    cases h
    refine ⟨_, ?_, by simp only [FVR]; rfl⟩
    simp [binOp, Op.stringOp]
end Go.Ev

import Derived.Test.YtfjpaakonepafaaGDc
import Derived.Test.YtfjpaakonepafaaGCon
import Derived.Test.YtfjpaakonepafaaEvInt
set_option linter.all false
namespace Go.R3K
open Go.Proofs Go.Ev
set_option maxRecDepth 100000
theorem bytes_ext {a b : ByteArray} (h : a.data.toList = b.data.toList) : a = b := ByteArray.ext (Array.ext' h)
theorem strEq_iff (x y : ByteArray) : strEq x y = true ↔ x = y := by
 unfold strEq
 constructor
 ·intro h
  have h2 : x.toList = y.toList := by simpa using h
  rw [ByteArray.toList_eq, ByteArray.toList_eq] at h2
  exact bytes_ext h2
 ·rintro rfl; simp
def FitT (t : AType) : Prop := t.Params.length ≤ 4000000000000000000 ∧ t.Results.length ≤ 4000000000000000000
def FitF (f : AFunc) : Prop := f.Locals.length ≤ 4000000000000000000 ∧ f.Code.length ≤ 4000000000000000000 ∧ ∀ i ∈ f.Code, i.L.length ≤ 4000000000000000000
structure Fit (m : AModule) : Prop where
 lt : m.Types.length ≤ 4000000000000000000
 li : m.Imports.length ≤ 4000000000000000000
 lf : m.Funcs.length ≤ 4000000000000000000
 lm : m.Mems.length ≤ 4000000000000000000
 lg : m.Globals.length ≤ 4000000000000000000
 le : m.Exports.length ≤ 4000000000000000000
 ld : m.Datas.length ≤ 4000000000000000000
 lc : m.Customs.length ≤ 4000000000000000000
 ts : ∀ t ∈ m.Types, FitT t
 fs : ∀ f ∈ m.Funcs, FitF f
theorem eq_wp (a b : List Int) (hb : a.length ≤ 4000000000000000000) : Wp (fun k => if (a.length : Int) = (b.length : Int) then altB (loopS (fun x : Int => if x < (a.length : Int) then (at? a x).bind fun e54 => ((at? b x).bind fun e56 => (if e54 = e56 then (some (.inl (iadd .i64 x 1))) else (some (.inr (.inr ()) : Int ⊕ (Unit ⊕ Unit))))) else some (.inr (.inl ()))) k (0 : Int)) (fun _ => some true) (fun _ => some false) else some false) (Tell (a = b)) := by
 refine tell_wp (alike_wp a b hb (fun x y => x = y) (fun i x y hx hy _ => at_nat hx (at_nat hy (.ite (fun h => .one (.on h)) (fun h => .one (.off h)))))) ⟨fun h => ?_, fun h => ?_⟩
 ·refine List.ext_getElem? fun i => ?_
  by_cases c : i < a.length
  ·have h1 : a[i]? = some (a[i]'c) := List.getElem?_eq_getElem _
   have h2 : b[i]? = some (b[i]'(by rw [← h.1]; exact c)) := List.getElem?_eq_getElem _
   rw [h1, h2, h.2 i _ _ h1 h2]
  ·rw [List.getElem?_eq_none (by omega), List.getElem?_eq_none (by rw [← h.1]; omega)]
 ·subst h; exact alike_self fun _ _ => rfl
theorem ints6_wp (a b : List Int) (hb : a.length ≤ 4000000000000000000) : Wp (fun k => ref6_ints.f k a b) (Tell (a = b)) := by
 refine .succ ?_
 simp only [ref6_ints.f]
 exact eq_wp a b hb
def sT (x y : AType) : Prop := x.Params = y.Params ∧ x.Results = y.Results
def sI (x y : AImport) : Prop := x.Module = y.Module ∧ x.Name = y.Name ∧ x.fType = y.fType
def sN (x y : AInst) : Prop := x.Op = y.Op ∧ x.A = y.A ∧ x.B = y.B ∧ x.N = y.N ∧ x.L = y.L
def sF (x y : AFunc) : Prop := x.fType = y.fType ∧ x.Locals = y.Locals ∧ Ev.Alike sN x.Code y.Code
def sM (x y : AMem) : Prop := x.Min = y.Min ∧ x.Max = y.Max
def sG (x y : AGlobal) : Prop := x.fType = y.fType ∧ x.Var = y.Var ∧ x.Init = y.Init
def sE (x y : AExport) : Prop := x.Name = y.Name ∧ x.Kind = y.Kind ∧ x.Index = y.Index
def sD (x y : AData) : Prop := x.Active = y.Active ∧ x.Mem = y.Mem ∧ x.At = y.At ∧ strEq (strOf x.Bytes) (strOf y.Bytes) = true
def sC (x y : ACustom) : Prop := x.Name = y.Name ∧ strEq (strOf x.Bytes) (strOf y.Bytes) = true
theorem tI (x y : AImport) : Tell (sI x y) ((strEq x.Module y.Module) && ((strEq x.Name y.Name) && ((x.fType == y.fType) && true))) := by simp [Tell, sI, strEq_iff]
theorem tM (x y : AMem) : Tell (sM x y) ((x.Min == y.Min) && ((x.Max == y.Max) && true)) := by simp [Tell, sM]
theorem tG (x y : AGlobal) : Tell (sG x y) ((x.fType == y.fType) && ((x.Var == y.Var) && ((x.Init == y.Init) && true))) := by simp [Tell, sG]
theorem tE (x y : AExport) : Tell (sE x y) ((strEq x.Name y.Name) && ((x.Kind == y.Kind) && ((x.Index == y.Index) && true))) := by simp [Tell, sE, strEq_iff]
theorem st_nif {F : Nat → Option Bool} {Q : Prop} {i : Int} (h : Wp F (Tell Q)) : Wp (fun k => (F k).bind fun r => if (!r) = true then some (.inr (.inr ())) else some (.inl (iadd .i64 i 1) : Int ⊕ (Unit ⊕ Unit))) (Step Q i (fun _ => True)) :=
 .bind h (fun _ hr => .nif hr (fun h => .one (.off h)) (fun h => .one (.on h)))
theorem st_n {r : Bool} {Q : Prop} {i : Int} (hr : Tell Q r) : Wp (fun _ => if (!r) = true then some (.inr (.inr ())) else some (.inl (iadd .i64 i 1) : Int ⊕ (Unit ⊕ Unit))) (Step Q i (fun _ => True)) := .nif hr (fun h => .one (.off h)) (fun h => .one (.on h))
def AlikeM (a b : AModule) : Prop := Ev.Alike sT a.Types b.Types ∧ Ev.Alike sI a.Imports b.Imports ∧ Ev.Alike sF a.Funcs b.Funcs ∧ Ev.Alike sM a.Mems b.Mems ∧ Ev.Alike sG a.Globals b.Globals ∧ Ev.Alike sE a.Exports b.Exports ∧ Ev.Alike sD a.Datas b.Datas ∧ Ev.Alike sC a.Customs b.Customs
theorem alikeM_self (m : AModule) : AlikeM m m :=
 ⟨alike_self fun _ _ => ⟨rfl, rfl⟩, alike_self fun _ _ => ⟨rfl, rfl, rfl⟩, alike_self fun _ _ => ⟨rfl, rfl, alike_self fun _ _ => ⟨rfl, rfl, rfl, rfl, rfl⟩⟩, alike_self fun _ _ => ⟨rfl, rfl⟩, alike_self fun _ _ => ⟨rfl, rfl, rfl⟩, alike_self fun _ _ => ⟨rfl, rfl, rfl⟩, alike_self fun _ _ => ⟨rfl, rfl, rfl, (strEq_iff _ _).2 rfl⟩, alike_self fun _ _ => ⟨rfl, (strEq_iff _ _).2 rfl⟩⟩
theorem types6_wp (x y : AType) (h : FitT x) : Wp (fun k => ref6_Types.f k x y) (Tell (sT x y)) := by
 refine .succ ?_
 simp only [ref6_Types.f]
 unfold sT
 exact .bind (ints6_wp _ _ h.1) (fun r hr => .tif hr (fun h1 => .bind (ints6_wp _ _ h.2) (fun r hr => .one (hr.iff ⟨fun q => ⟨h1, q⟩, fun q => q.2⟩))) (fun h1 => .one (.no fun q => h1 q.1)))
theorem insts6_wp (a b : List AInst) (hl : a.length ≤ 4000000000000000000) (h : ∀ i ∈ a, i.L.length ≤ 4000000000000000000) : Wp (fun k => ref6_Insts.f k a b) (Tell (Ev.Alike sN a b)) := by
 refine .succ ?_
 simp only [ref6_Insts.f]
 refine alike_wp a b hl sN (fun i x y hx hy hm => at_nat hx (at_nat hy (.ite (fun h1 => ?_) (fun h1 => .one (.off fun q => h1 q.1)))))
 refine at_nat hx (at_nat hy (.ite (fun h2 => ?_) (fun h1 => .one (.off fun q => h1 q.2.1))))
 refine at_nat hx (at_nat hy (.ite (fun h3 => ?_) (fun h1 => .one (.off fun q => h1 q.2.2.1))))
 refine at_nat hx (at_nat hy (.ite (fun h4 => ?_) (fun h1 => .one (.off fun q => h1 q.2.2.2.1))))
 refine at_nat hx (at_nat hy (.bind (ints6_wp _ _ (h x hm)) (fun r hr => .nif hr (fun h5 => .one (.off fun q => h5 q.2.2.2.2)) (fun h5 => .one (.on ⟨h1, h2, h3, h4, h5⟩)))))
theorem srest_wp (a b : AModule) (ha : Fit a) (l4 : a.Mems.length = b.Mems.length) (l5 : a.Globals.length = b.Globals.length) (l6 : a.Exports.length = b.Exports.length) (l7 : a.Datas.length = b.Datas.length) (l8 : a.Customs.length = b.Customs.length) :
  Wp (fun k => ref6_sameRest.f k a b) (Tell (Ev.Alike sM a.Mems b.Mems ∧ Ev.Alike sG a.Globals b.Globals ∧ Ev.Alike sE a.Exports b.Exports ∧ Ev.Alike sD a.Datas b.Datas ∧ Ev.Alike sC a.Customs b.Customs)) := by
 refine .succ ?_
 simp only [ref6_sameRest.f]
 refine .alt (equal_wp _ _ ha.lm sM (fun i x y hx hy hm => at_nat hx (at_nat hy (st_n (tM x y)))) l4) (fun _ h4 => ?_) (fun _ h => .one (.no fun q => h q.1.2))
 refine .alt (equal_wp _ _ ha.lg sG (fun i x y hx hy hm => at_nat hx (at_nat hy (st_n (tG x y)))) l5) (fun _ h5 => ?_) (fun _ h => .one (.no fun q => h q.2.1.2))
 refine .alt (equal_wp _ _ ha.le sE (fun i x y hx hy hm => at_nat hx (at_nat hy (st_n (tE x y)))) l6) (fun _ h6 => ?_) (fun _ h => .one (.no fun q => h q.2.2.1.2))
 refine .alt (equal_wp _ _ ha.ld sD (fun i x y hx hy hm => at_nat hx (at_nat hy ?_)) l7) (fun _ h7 => ?_) (fun _ h => .one (.no fun q => h q.2.2.2.1.2))
 ·refine .nif (Q := x.Active = y.Active) (by simp [Tell]) (fun h => .one (.off fun q => h q.1)) (fun h1 => .ite (fun h2 => .ite (fun h3 => .nif (Q := strEq (strOf x.Bytes) (strOf y.Bytes) = true) Iff.rfl (fun h => .one (.off fun q => h q.2.2.2)) (fun h4 => .one (.on ⟨h1, h2, h3, h4⟩))) (fun h => .one (.off fun q => h q.2.2.1))) (fun h => .one (.off fun q => h q.2.1)))
 refine .alt (equal_wp _ _ ha.lc sC (fun i x y hx hy hm => at_nat hx (at_nat hy ?_)) l8) (fun _ h8 => .one (.yes ⟨⟨l4, h4⟩, ⟨l5, h5⟩, ⟨l6, h6⟩, ⟨l7, h7⟩, l8, h8⟩)) (fun _ h => .one (.no fun q => h q.2.2.2.2.2))
 refine .nif (Q := x.Name = y.Name) (strEq_iff _ _) (fun h => .one (.off fun q => h q.1)) (fun h1 => at_nat hx (at_nat hy (.nif (Q := strEq (strOf x.Bytes) (strOf y.Bytes) = true) Iff.rfl (fun h => .one (.off fun q => h q.2)) (fun h4 => .one (.on ⟨h1, h4⟩)))))
theorem rsame_wp (a b : AModule) (ha : Fit a) : Wp (fun k => ref6_Same.f k a b) (Tell (AlikeM a b)) := by
 refine .succ ?_
 simp only [ref6_Same.f]
 unfold AlikeM
 refine .ite (fun l1 => .ite (fun l2 => .ite (fun l3 => .ite (fun l4 => .ite (fun l5 => .ite (fun l6 => .ite (fun l7 => .ite (fun l8 => ?_) (fun h => .one (.no fun q => h (by rw [q.2.2.2.2.2.2.2.1])))) (fun h => .one (.no fun q => h (by rw [q.2.2.2.2.2.2.1.1])))) (fun h => .one (.no fun q => h (by rw [q.2.2.2.2.2.1.1])))) (fun h => .one (.no fun q => h (by rw [q.2.2.2.2.1.1])))) (fun h => .one (.no fun q => h (by rw [q.2.2.2.1.1])))) (fun h => .one (.no fun q => h (by rw [q.2.2.1.1])))) (fun h => .one (.no fun q => h (by rw [q.2.1.1])))) (fun h => .one (.no fun q => h (by rw [q.1.1])))
 refine .alt (equal_wp _ _ ha.lt sT (fun i x y hx hy hm => at_nat hx (at_nat hy (st_nif (types6_wp x y (ha.ts x hm))))) (by omega)) (fun _ h1 => ?_) (fun _ h => .one (.no fun q => h q.1.2))
 refine .alt (equal_wp _ _ ha.li sI (fun i x y hx hy hm => at_nat hx (at_nat hy (st_n (tI x y)))) (by omega)) (fun _ h2 => ?_) (fun _ h => .one (.no fun q => h q.2.1.2))
 refine .alt (equal_wp _ _ ha.lf sF (fun i x y hx hy hm => at_nat hx (at_nat hy ?_)) (by omega)) (fun _ h3 => ?_) (fun _ h => .one (.no fun q => h q.2.2.1.2))
 ·obtain ⟨g1, g2, g3⟩ := ha.fs x hm
  refine .ite (fun e1 => ?_) (fun h => .one (.off fun q => h q.1))
  refine at_nat hx (at_nat hy (.bind (ints6_wp _ _ g1) (fun r hr => .nif hr (fun h => .one (.off fun q => h q.2.1)) (fun e2 => ?_))))
  exact at_nat hx (at_nat hy (.bind (insts6_wp _ _ g2 g3) (fun r hr => .nif hr (fun h => .one (.off fun q => h q.2.2)) (fun e3 => .one (.on ⟨e1, e2, e3⟩)))))
 exact .bind (srest_wp a b ha (by omega) (by omega) (by omega) (by omega) (by omega)) (fun r hr => .one (hr.iff ⟨fun q => ⟨⟨by omega, h1⟩, ⟨by omega, h2⟩, ⟨by omega, h3⟩, q⟩, fun q => q.2.2.2⟩))
end Go.R3K

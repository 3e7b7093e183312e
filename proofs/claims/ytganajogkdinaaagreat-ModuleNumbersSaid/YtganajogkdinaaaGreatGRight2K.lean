import Derived.Test.YtganajogkdinaaaGreatGNamesK
set_option linter.all false
namespace Go.R4
open Go.Proofs Go.Ev
set_option maxRecDepth 100000
def FitT (t : AType) : Prop := t.Params.length ≤ 4000000000000000000 ∧ t.Results.length ≤ 4000000000000000000
def FitF (f : AFunc) : Prop := f.Locals.length ≤ 4000000000000000000 ∧ f.Code.length ≤ 4000000000000000000 ∧ ∀ i ∈ f.Code, i.L.length ≤ 4000000000000000000
structure Fit (m : AModule) : Prop where
 lt : m.Types.length ≤ 4000000000000000000
 li : m.Imports.length ≤ 4000000000000000000
 lf : m.Funcs.length ≤ 4000000000000000000
 lm : m.Mems.length ≤ 4000000000000000000
 lg : m.Globals.length ≤ 4000000000000000000
 le : m.Exports.length ≤ 4000000000000000000
 ld : m.Datas.length ≤ 4000000000000000000
 lc : m.Customs.length ≤ 4000000000000000000
 ts : ∀ t ∈ m.Types, FitT t
 fs : ∀ f ∈ m.Funcs, FitF f
def kindP (t : Int) : Prop := t = 127 ∨ t = 126 ∨ t = 124
theorem types_wp4 (l : List Int) (hl : l.length ≤ 4000000000000000000) : Wp (fun k => module_types.f k l) (Tell (∀ e ∈ l, kindP e)) := by
 refine .succ ?_
 simp only [module_types.f]
 refine notnot_wp (.succ ?_)
 simp only [ContainsFunc_180.f]
 refine contains_wp (.succ ?_)
 simp only [IndexFunc_264.f]
 refine index_wp l hl kindP (fun e _ => .succ ?_)
 simp only [module_types_1.f]
 unfold kindP
 refine .ite (fun h => .one (.no (by omega))) (fun h => .ite (fun h => .one (.no (by omega))) (fun h2 => .one ?_))
 exact (Tell.dec (c := e = 124) Iff.rfl).not.iff (by omega)
def TypeP (t : AType) : Prop := (t.Params.length ≤ 8 ∧ ∀ e ∈ t.Params, kindP e) ∧ (t.Results.length ≤ 8 ∧ ∀ e ∈ t.Results, kindP e)
theorem typed_wp (t : AType) (h : FitT t) : Wp (fun k => module_typed.f k t) (Tell (TypeP t)) := by
 refine .succ ?_
 simp only [module_typed.f]
 unfold TypeP
 refine .ite (fun h1 => .ite (fun h2 => ?_) (fun h2 => .one (.no fun q => by have := q.2.1; omega))) (fun h1 => .one (.no fun q => by have := q.1.1; omega))
 refine .bind (types_wp4 _ h.1) (fun r hr => .tif hr (fun h3 => .bind (types_wp4 _ h.2) (fun r hr => .one (hr.iff ⟨fun q => ⟨⟨by omega, h3⟩, by omega, q⟩, fun q => q.2.2⟩))) (fun h3 => .one (.no fun q => h3 q.1.2)))
theorem all97 (l : List AType) (hl : l.length ≤ 4000000000000000000) (h : ∀ t ∈ l, FitT t) : Wp (fun k => module_all_97.f k l) (Tell (∀ t ∈ l, TypeP t)) := by
 refine .succ ?_
 simp only [module_all_97.f]
 refine notnot_wp (.succ ?_)
 simp only [ContainsFunc_189.f]
 refine contains_wp (.succ ?_)
 simp only [IndexFunc_268.f]
 refine index_wp l hl TypeP (fun e he => .succ ?_)
 simp only [module_all_190.f]
 exact not_wp (typed_wp e (h e he))
def ImpP (x : AImport) : Prop := NameP x.Module ∧ NameP x.Name ∧ 0 ≤ x.fType ∧ x.fType ≤ 2147483647
theorem all99 (l : List AImport) (hl : l.length ≤ 4000000000000000000) : Wp (fun k => module_all_99.f k l) (Tell (∀ t ∈ l, ImpP t)) := by
 refine .succ ?_
 simp only [module_all_99.f]
 refine notnot_wp (.succ ?_)
 simp only [ContainsFunc_191.f]
 refine contains_wp (.succ ?_)
 simp only [IndexFunc_269.f]
 refine index_wp l hl ImpP (fun e he => .succ ?_)
 simp only [module_all_192.f]
 refine not_wp (.succ ?_)
 simp only [module_Right_1.f]
 unfold ImpP
 exact .bind (name_wp _) (fun r hr => .tif hr (fun h1 => .bind (name_wp _) (fun r hr => .tif hr (fun h2 => .bind (index31_wp _) (fun r hr => .one (hr.iff ⟨fun q => ⟨h1, h2, q⟩, fun q => q.2.2⟩))) (fun h2 => .one (.no fun q => h2 q.2.1)))) (fun h1 => .one (.no fun q => h1 q.1)))
def CusP (x : ACustom) : Prop := NameP x.Name ∧ x.Bytes.length ≤ 1048576
theorem all104 (l : List ACustom) (hl : l.length ≤ 4000000000000000000) : Wp (fun k => module_all_104.f k l) (Tell (∀ t ∈ l, CusP t)) := by
 refine .succ ?_
 simp only [module_all_104.f]
 refine notnot_wp (.succ ?_)
 simp only [ContainsFunc_194.f]
 refine contains_wp (.succ ?_)
 simp only [IndexFunc_271.f]
 refine index_wp l hl CusP (fun e he => .succ ?_)
 simp only [module_all_195.f]
 refine not_wp (.succ ?_)
 simp only [module_Right_2.f]
 unfold CusP
 exact .bind (name_wp _) (fun r hr => .tif hr (fun h1 => .one (.dec ⟨fun q => ⟨h1, by omega⟩, fun q => by have := q.2; omega⟩)) (fun h1 => .one (.no fun q => h1 q.1)))
def FunP (f : AFunc) : Prop := (0 ≤ f.fType ∧ f.fType ≤ 2147483647) ∧ (f.Locals.length ≤ 256 ∧ ∀ e ∈ f.Locals, kindP e) ∧ f.Code.length ≤ 65536 ∧ ∀ i ∈ f.Code, InstP i
theorem all106 (l : List AFunc) (hl : l.length ≤ 4000000000000000000) (h : ∀ f ∈ l, FitF f) : Wp (fun k => module_all_106.f k l) (Tell (∀ t ∈ l, FunP t)) := by
 refine .succ ?_
 simp only [module_all_106.f]
 refine notnot_wp (.succ ?_)
 simp only [ContainsFunc_196.f]
 refine contains_wp (.succ ?_)
 simp only [IndexFunc_272.f]
 refine index_wp l hl FunP (fun e he => .succ ?_)
 simp only [module_all_197.f]
 refine not_wp (.succ ?_)
 simp only [module_coded.f]
 obtain ⟨g1, g2, g3⟩ := h e he
 unfold FunP
 refine .bind (index31_wp _) (fun r hr => .tif hr (fun h1 => ?_) (fun h1 => .one (.no fun q => h1 q.1)))
 refine .ite (fun h2 => ?_) (fun h2 => .one (.no fun q => by have := q.2.1.1; omega))
 refine .bind (types_wp4 _ g1) (fun r hr => .tif hr (fun h3 => ?_) (fun h3 => .one (.no fun q => h3 q.2.1.2)))
 refine .ite (fun h4 => ?_) (fun h4 => .one (.no fun q => by have := q.2.2.1; omega))
 refine tell_wp (Q := ∀ i ∈ e.Code, InstP i) (notnot_wp (.succ ?_)) ⟨fun q => ⟨h1, ⟨by omega, h3⟩, by omega, q⟩, fun q => q.2.2.2⟩
 simp only [ContainsFunc_198.f]
 refine contains_wp (.succ ?_)
 simp only [IndexFunc_273.f]
 refine index_wp _ g2 InstP (fun i hi => .succ ?_)
 simp only [module_coded_1.f]
 exact not_wp (inst_wp i)
def MemP (x : AMem) : Prop := 0 ≤ x.Min ∧ x.Min ≤ x.Max ∧ x.Max ≤ 512
theorem all108 (l : List AMem) (hl : l.length ≤ 4000000000000000000) : Wp (fun k => module_all_108.f k l) (Tell (∀ t ∈ l, MemP t)) := by
 refine .succ ?_
 simp only [module_all_108.f]
 refine notnot_wp (.succ ?_)
 simp only [ContainsFunc_200.f]
 refine contains_wp (.succ ?_)
 simp only [IndexFunc_274.f]
 refine index_wp l hl MemP (fun e he => .succ ?_)
 simp only [module_all_201.f]
 refine not_wp (.succ ?_)
 simp only [module_Right_3.f]
 unfold MemP
 exact .ite (fun h1 => .ite (fun h2 => .one (.dec (by omega))) (fun h2 => .one (.no (by omega)))) (fun h1 => .one (.no (by omega)))
def GloP (x : AGlobal) : Prop := kindP x.fType ∧ (x.fType = 127 → x.Init ≤ 4294967295)
theorem all110 (l : List AGlobal) (hl : l.length ≤ 4000000000000000000) : Wp (fun k => module_all_110.f k l) (Tell (∀ t ∈ l, GloP t)) := by
 refine .succ ?_
 simp only [module_all_110.f]
 refine notnot_wp (.succ ?_)
 simp only [ContainsFunc_202.f]
 refine contains_wp (.succ ?_)
 simp only [IndexFunc_275.f]
 refine index_wp l hl GloP (fun e he => .succ ?_)
 simp only [module_all_203.f]
 refine not_wp (.succ ?_)
 simp only [module_Right_4.f]
 unfold GloP
 refine .bind (types_wp4 [e.fType] (by simp)) (fun r hr => .tif hr (fun h1 => ?_) (fun h1 => .one (.no fun q => h1 (fun x hx => by rw [List.mem_singleton.1 hx]; exact q.1))))
 have h1' := h1 e.fType (List.mem_singleton.2 rfl)
 exact .ite (fun h2 => .one (.dec ⟨fun q => ⟨h1', fun _ => q⟩, fun q => q.2 h2⟩)) (fun h2 => .one (.yes ⟨h1', fun q => (h2 q).elim⟩))
def DatP (x : AData) : Prop := (x.Active = true → (0 ≤ x.Mem ∧ x.Mem < 4) ∧ 0 ≤ x.At ∧ x.At ≤ 2147483647) ∧ (x.Active = false → x.Mem = 0 ∧ x.At = 0) ∧ x.Bytes.length ≤ 1048576
theorem all113 (l : List AData) (hl : l.length ≤ 4000000000000000000) : Wp (fun k => module_all_113.f k l) (Tell (∀ t ∈ l, DatP t)) := by
 refine .succ ?_
 simp only [module_all_113.f]
 refine notnot_wp (.succ ?_)
 simp only [ContainsFunc_205.f]
 refine contains_wp (.succ ?_)
 simp only [IndexFunc_276.f]
 refine index_wp l hl DatP (fun e he => .succ ?_)
 simp only [module_all_206.f]
 refine not_wp (.succ ?_)
 simp only [module_laid.f]
 unfold DatP
 obtain ⟨ac, mem, at_, by_⟩ := e
 dsimp only
 cases ac with
 | true =>
  simp only [if_true, true_implies, Bool.true_eq_false, false_implies, true_and]
  refine .ite (fun h1 => ?_) (fun h1 => ?_) <;>
  exact .seg (Q := Tell ((0 ≤ mem ∧ mem < 4) ∧ 0 ≤ at_ ∧ at_ ≤ 2147483647)) (.bind (within_t _ _) (fun r hr => .tif hr (fun h2 => .bind (index31_wp _) (fun r hr => .left (hr.iff ⟨fun q => ⟨h2, q⟩, fun q => q.2⟩))) (fun h2 => .left (.no fun q => h2 q.1))))
   (fun x hx => .tif hx (fun h2 => .one (.dec ⟨fun q => ⟨h2, by omega⟩, fun q => by have := q.2; omega⟩)) (fun h2 => .one (.no fun q => h2 q.1)))
 | false =>
  simp only [Bool.false_eq_true, if_false, false_implies, true_implies, true_and]
  refine .ite (fun h1 => ?_) (fun h1 => ?_)
  ·exact .seg (Q := Tell (at_ = 0)) (.left (.dec Iff.rfl)) (fun x hx => .tif hx (fun h2 => .one (.dec ⟨fun q => ⟨⟨h1, h2⟩, by omega⟩, fun q => by have := q.2; omega⟩)) (fun h2 => .one (.no fun q => h2 q.1.2)))
  ·exact .seg (Q := Tell False) (.left (.no id)) (fun x hx => .tif hx (fun h2 => h2.elim) (fun h2 => .one (.no fun q => h1 q.1.1)))
def RightP (m : AModule) : Prop := ((∀ t ∈ m.Types, TypeP t) ∧ (∀ t ∈ m.Imports, ImpP t) ∧ (∀ t ∈ m.Funcs, FunP t) ∧ (∀ t ∈ m.Mems, MemP t) ∧ ∀ t ∈ m.Globals, GloP t) ∧ ExpsP m.Exports ∧ (∀ t ∈ m.Datas, DatP t) ∧ ∀ t ∈ m.Customs, CusP t
def FullP (m : AModule) : Prop := (m.Types.length : Int) > 64 ∨ (iadd .i64 (m.Imports.length : Int) (m.Funcs.length : Int)) > 256 ∨ (m.Mems.length : Int) > 4 ∨ (m.Globals.length : Int) > 256 ∨ (m.Datas.length : Int) > 16 ∨ (m.Exports.length : Int) > 256 ∨ (m.Customs.length : Int) > 16
def RP (m : AModule) (r : Int) : Prop := (FullP m ∧ r = 13) ∨ (¬ FullP m ∧ RightP m ∧ r = 0) ∨ (¬ FullP m ∧ ¬ RightP m ∧ r = 12)
theorem RP.eq {m : AModule} {r s : Int} (h : RP m r) (k : RP m s) : r = s := by
 rcases h with ⟨a, b⟩ | ⟨a, b, c⟩ | ⟨a, b, c⟩ <;> rcases k with ⟨d, e⟩ | ⟨d, e, f⟩ | ⟨d, e, f⟩ <;> first | omega | exact (a d).elim | exact (d a).elim | exact (b e).elim | exact (e b).elim
theorem full_wp (m : AModule) : Wp (fun k => module_full.f k m) (Tell (FullP m)) := by
 refine .succ ?_
 simp only [module_full.f]
 unfold FullP
 generalize iadd .i64 (m.Imports.length : Int) (m.Funcs.length : Int) = s
 exact .ite (fun h => .one (.yes (by omega))) (fun h1 => .ite (fun h => .one (.yes (by omega))) (fun h2 => .ite (fun h => .one (.yes (by omega))) (fun h3 => .ite (fun h => .one (.yes (by omega))) (fun h4 => .ite (fun h => .one (.yes (by omega))) (fun h5 => .ite (fun h => .one (.yes (by omega))) (fun h6 => .one (.dec (by omega))))))))
theorem right_wp (m : AModule) (hm : Fit m) : Wp (fun k => module_Right.f k m) (RP m) := by
 refine .succ ?_
 simp only [module_Right.f]
 refine .bind (full_wp m) (fun r hr => .tif hr (fun hF => .one (.inl ⟨hF, rfl⟩)) (fun hF => ?_))
 refine .seg (Q := Tell (¬ RightP m)) ?_ (fun x hx => .tif hx (fun h => .one (.inr (.inr ⟨hF, h, rfl⟩))) (fun h => .one (.inr (.inl ⟨hF, Classical.not_not.1 h, rfl⟩))))
 refine .bind (all97 _ hm.lt hm.ts) (fun r hr => .nif hr (fun h => .left (.yes fun q => h q.1.1)) (fun h1 => ?_))
 refine .bind (all99 _ hm.li) (fun r hr => .nif hr (fun h => .left (.yes fun q => h q.1.2.1)) (fun h2 => ?_))
 refine .bind (exported_wp _ hm.le) (fun r hr => .nif hr (fun h => .left (.yes fun q => h q.2.1)) (fun h3 => ?_))
 refine .bind (all104 _ hm.lc) (fun r hr => .nif hr (fun h => .left (.yes fun q => h q.2.2.2)) (fun h4 => ?_))
 refine .bind (all106 _ hm.lf hm.fs) (fun r hr => .nif hr (fun h => .left (.yes fun q => h q.1.2.2.1)) (fun h5 => ?_))
 refine .bind (all108 _ hm.lm) (fun r hr => .nif hr (fun h => .left (.yes fun q => h q.1.2.2.2.1)) (fun h6 => ?_))
 refine .bind (all110 _ hm.lg) (fun r hr => .nif hr (fun h => .left (.yes fun q => h q.1.2.2.2.2)) (fun h7 => ?_))
 refine .bind (all113 _ hm.ld) (fun r hr => .nif hr (fun h => .left (.yes fun q => h q.2.2.1)) (fun h8 => .left (.no fun q => q ⟨⟨h1, h2, h5, h6, h7⟩, h3, h8, h4⟩)))
end Go.R4
namespace Go.R4
open Go.Proofs Go.Ev
set_option maxRecDepth 100000
theorem kind_wp (t : Int) : Wp (fun k => ref6_kind.f k t) (Tell (kindP t)) := by
 refine .succ ?_
 simp only [ref6_kind.f]
 unfold kindP
 exact .ite (fun h => .one (.yes (by omega))) (fun h => .ite (fun h => .one (.yes (by omega))) (fun h2 => .one (.dec (by omega))))
theorem kinds_wp (l : List Int) (n : Int) (hl : l.length ≤ 4000000000000000000) : Wp (fun k => ref6_kinds.f k l n) (Tell ((l.length : Int) ≤ n ∧ ∀ e ∈ l, kindP e)) := by
 refine .succ ?_
 simp only [ref6_kinds.f]
 refine .alt (scanm_wp (O := Unit) l hl kindP (fun _ _ => True) (fun j e he hm => at_nat he (.bind (kind_wp _) (fun r hr => .nif hr (fun h => .one (.off h)) (fun h => .one (.on h)))))) (fun _ h => .one (.dec ⟨fun q => ⟨q, h⟩, fun q => q.1⟩)) (fun _ h => .one (.no fun q => h.1 q.2))
theorem parts_wp (m : AModule) (hm : Fit m) : Wp (fun k => ref6_parts.f k m) (Tell ((∀ t ∈ m.Types, TypeP t) ∧ (∀ t ∈ m.Imports, ImpP t) ∧ (∀ t ∈ m.Funcs, FunP t) ∧ (∀ t ∈ m.Mems, MemP t) ∧ ∀ t ∈ m.Globals, GloP t)) := by
 refine .succ ?_
 simp only [ref6_parts.f]
 refine .alt (scanm_wp (O := Unit) m.Types hm.lt TypeP (fun _ _ => True) (fun j e he hi => at_nat he ?_)) (fun _ h1 => ?_) (fun _ h => .one (.no fun q => h.1 q.1))
 ·obtain ⟨g1, g2⟩ := hm.ts e hi
  refine .bind (kinds_wp _ _ g1) (fun r hr => .nif hr (fun h => .one (.off fun q => h ⟨by have := q.1.1; omega, q.1.2⟩)) (fun h1 => .bind (kinds_wp _ _ g2) (fun r hr => .nif hr (fun h => .one (.off fun q => h ⟨by have := q.2.1; omega, q.2.2⟩)) (fun h2 => .one (.on ?_)))))
  exact ⟨⟨by omega, h1.2⟩, by omega, h2.2⟩
 refine .alt (scanm_wp (O := Unit) m.Imports hm.li ImpP (fun _ _ => True) (fun j e he hi => at_nat he ?_)) (fun _ h2 => ?_) (fun _ h => .one (.no fun q => h.1 q.2.1))
 ·refine .bind (rname_wp _) (fun r hr => .nif hr (fun h => .one (.off fun q => h q.1)) (fun h1 => .bind (rname_wp _) (fun r hr => .nif hr (fun h => .one (.off fun q => h q.2.1)) (fun h2 => .bind (in_wp _ _) (fun r hr => .nif hr (fun h => .one (.off fun q => h q.2.2)) (fun h3 => .one (.on ⟨h1, h2, h3⟩)))))))
 refine .alt (scanm_wp (O := Unit) m.Funcs hm.lf FunP (fun _ _ => True) (fun j e he hi => at_nat he ?_)) (fun _ h3 => ?_) (fun _ h => .one (.no fun q => h.1 q.2.2.1))
 ·obtain ⟨g1, g2, g3⟩ := hm.fs e hi
  refine .bind (in_wp _ _) (fun r hr => .nif hr (fun h => .one (.off fun q => h q.1)) (fun h1 => .bind (kinds_wp _ _ g1) (fun r hr => .nif hr (fun h => .one (.off fun q => h ⟨by have := q.2.1.1; omega, q.2.1.2⟩)) (fun h2 => ?_))))
  refine .ite (fun h => .one (.off fun q => by have := q.2.2.1; omega)) (fun h3 => ?_)
  refine .alt (scanm_wp (O := Unit) e.Code g2 InstP (fun _ _ => True) (fun j i he hi => at_nat he (.bind (refinst_wp i (g3 i hi)) (fun r hr => .nif hr (fun h => .one (.off h)) (fun h => .one (.on h)))))) (fun _ h => .one (.on ⟨h1, ⟨by omega, h2.2⟩, by omega, h⟩)) (fun _ h => .one (.off fun q => h.1 q.2.2.2))
 refine .alt (scanm_wp (O := Unit) m.Mems hm.lm MemP (fun _ _ => True) (fun j e he hi => at_nat he ?_)) (fun _ h4 => ?_) (fun _ h => .one (.no fun q => h.1 q.2.2.2.1))
 ·exact .ite (fun h => .one (.off fun q => by have := q.1; omega)) (fun h1 => .ite (fun h => .one (.off fun q => by have := q.2.1; omega)) (fun h2 => .ite (fun h => .one (.off fun q => by have := q.2.2; omega)) (fun h3 => .one (.on ⟨by omega, by omega, by omega⟩))))
 refine .alt (scanm_wp (O := Unit) m.Globals hm.lg GloP (fun _ _ => True) (fun j e he hi => ?_)) (fun _ h5 => .one (.yes ⟨h1, h2, h3, h4, h5⟩)) (fun _ h => .one (.no fun q => h.1 q.2.2.2.2))
 refine .seg (Q := fun _ => GloP e) (at_nat he (.bind (kind_wp _) (fun r hr => .nif hr (fun h => .right (.off fun q => h q.1)) (fun h1 => .ite (fun h2 => .ite (fun h3 => .right (.off fun q => by have := q.2 h2; omega)) (fun h3 => .left ⟨h1, fun _ => by omega⟩)) (fun h2 => .left ⟨h1, fun q => (h2 q).elim⟩))))) (fun _ h => .one (.on h))
theorem rest_wp (m : AModule) (hm : Fit m) : Wp (fun k => ref6_rest.f k m) (Tell (ExpsP m.Exports ∧ (∀ t ∈ m.Datas, DatP t) ∧ ∀ t ∈ m.Customs, CusP t)) := by
 refine .succ ?_
 simp only [ref6_rest.f]
 refine .alt (scan_wp (O := Unit) m.Exports hm.le (fun j e => ExpP m.Exports j e) (fun _ _ => True) (fun j e he _ => at_nat he ?_)) (fun _ h1 => ?_) (fun _ h => .one (.no fun q => h.1 q.1))
 ·refine .seg (Q := fun _ => NameP e.Name ∧ (0 ≤ e.Index ∧ e.Index ≤ 2147483647) ∧ (e.Kind = 0 ∨ e.Kind = 2 ∨ e.Kind = 3)) ?_ (fun _ h => ?_)
  ·exact .bind (rname_wp _) (fun r hr => .nif hr (fun h => .right (.off fun q => h q.1)) (fun h1 => .bind (in_wp _ _) (fun r hr => .nif hr (fun h => .right (.off fun q => h q.2.1)) (fun h2 => .ite (fun h => .left ⟨h1, h2, .inl h⟩) (fun h3 => .ite (fun h => .left ⟨h1, h2, .inr (.inl h)⟩) (fun h4 => .ite (fun h => .left ⟨h1, h2, .inr (.inr h)⟩) (fun h5 => .right (.off fun q => by have := q.2.2.1; omega))))))))
  ·have hj := (List.getElem?_eq_some_iff.1 he).1
   have := hm.le
   refine .alt (Q := fun _ => ∀ (i : Nat) x, i < j → m.Exports[i]? = some x → x.Name ≠ e.Name) (Q2 := fun _ => ¬ ∀ (i : Nat) x, i < j → m.Exports[i]? = some x → x.Name ≠ e.Name)
    (.loop (fun (n : Nat) (i : Int) => 0 ≤ i ∧ i + (n : Int) = j ∧ ∀ (a : Nat) x, a < i.toNat → m.Exports[a]? = some x → x.Name ≠ e.Name) (fun n i hi => ?_) (n := j) ⟨by omega, by omega, fun a x h => by simp at h⟩) (fun _ h2 => .one (.on ⟨h.1, h.2.1, h.2.2, h2⟩)) (fun _ h2 => .one (.off fun q => h2 q.2.2.2))
   obtain ⟨i1, i2, i3⟩ := hi
   simp only [ref6_rest.b7]
   refine .ite (fun hlt => .bind (.idx i1 (by omega)) (fun y hy => .ite (fun hs => .right ?_) (fun hs => .left ?_))) (fun hge => .right ?_)
   ·exact fun q => q i.toNat y (by omega) hy ((strEq_iff _ _).1 hs)
   ·refine ⟨n - 1, by omega, ?_⟩
    rw [iadd64 (by omega) (by omega)]
    refine ⟨by omega, by omega, fun a x ha hx => ?_⟩
    by_cases c : a < i.toNat
    ·exact i3 a x c hx
    ·have : a = i.toNat := by omega
     subst this
     rw [hy] at hx; cases hx
     exact fun q => hs ((strEq_iff _ _).2 q)
   ·exact fun a x ha hx => i3 a x (by omega) hx
 refine .alt (scanm_wp (O := Unit) m.Datas hm.ld DatP (fun _ _ => True) (fun j e he hi => ?_)) (fun _ h2 => ?_) (fun _ h => .one (.no fun q => h.1 q.2.1))
 ·refine .seg (Q := fun _ => DatP e) (at_nat he ?_) (fun _ h => .one (.on h))
  unfold DatP
  obtain ⟨ac, mem, at_, by_⟩ := e
  dsimp only
  cases ac with
  | true =>
   simp only [if_true, Bool.not_true, Bool.false_eq_true, if_false, true_implies, Bool.true_eq_false, false_implies, true_and]
   exact .bind (in_wp _ _) (fun r hr => .nif hr (fun h => .right (.off fun q => h ⟨q.1.1.1, by have := q.1.1.2; omega⟩)) (fun h1 => .bind (in_wp _ _) (fun r hr => .nif hr (fun h => .right (.off fun q => h q.1.2)) (fun h2 => .ite (fun h => .right (.off fun q => by have := q.2; omega)) (fun h3 => .left ⟨⟨⟨h1.1, by omega⟩, h2⟩, by omega⟩)))))
  | false =>
   simp only [Bool.not_false, Bool.false_eq_true, if_false, if_true, false_implies, true_implies, true_and]
   exact .ite (fun h1 => .ite (fun h2 => .ite (fun h => .right (.off fun q => by have := q.2; omega)) (fun h3 => .left ⟨⟨h1, h2⟩, by omega⟩)) (fun h2 => .right (.off fun q => h2 q.1.2))) (fun h1 => .right (.off fun q => h1 q.1.1))
 refine .alt (scanm_wp (O := Unit) m.Customs hm.lc CusP (fun _ _ => True) (fun j e he hi => at_nat he ?_)) (fun _ h3 => .one (.yes ⟨h1, h2, h3⟩)) (fun _ h => .one (.no fun q => h.1 q.2.2))
 exact .bind (rname_wp _) (fun r hr => .nif hr (fun h => .one (.off fun q => h q.1)) (fun h1 => .ite (fun h => .one (.off fun q => by have := q.2; omega)) (fun h2 => .one (.on ⟨h1, by omega⟩))))
theorem rright_wp (m : AModule) (hm : Fit m) : Wp (fun k => ref6_Right.f k m) (RP m) := by
 refine .succ ?_
 simp only [ref6_Right.f]
 have hF : FullP m ↔ ((m.Types.length : Int) > 64 ∨ (iadd .i64 (m.Imports.length : Int) (m.Funcs.length : Int)) > 256 ∨ (m.Mems.length : Int) > 4 ∨ (m.Globals.length : Int) > 256 ∨ (m.Datas.length : Int) > 16 ∨ (m.Exports.length : Int) > 256 ∨ (m.Customs.length : Int) > 16) := Iff.rfl
 revert hF
 generalize iadd .i64 (m.Imports.length : Int) (m.Funcs.length : Int) = s
 intro hF
 refine .ite (fun h => .one (.inl ⟨hF.2 (by omega), rfl⟩)) (fun h1 => .ite (fun h => .one (.inl ⟨hF.2 (by omega), rfl⟩)) (fun h2 => .ite (fun h => .one (.inl ⟨hF.2 (by omega), rfl⟩)) (fun h3 => .ite (fun h => .one (.inl ⟨hF.2 (by omega), rfl⟩)) (fun h4 => .ite (fun h => .one (.inl ⟨hF.2 (by omega), rfl⟩)) (fun h5 => .ite (fun h => .one (.inl ⟨hF.2 (by omega), rfl⟩)) (fun h6 => .ite (fun h => .one (.inl ⟨hF.2 (by omega), rfl⟩)) (fun h7 => ?_)))))))
 have hN : ¬ FullP m := fun q => by have := hF.1 q; omega
 exact .bind (parts_wp m hm) (fun r hr => .nif hr (fun h => .one (.inr (.inr ⟨hN, fun q => h q.1, rfl⟩))) (fun h1 => .bind (rest_wp m hm) (fun r hr => .nif hr (fun h => .one (.inr (.inr ⟨hN, fun q => h q.2, rfl⟩))) (fun h2 => .one (.inr (.inl ⟨hN, ⟨h1, h2⟩, rfl⟩))))))
end Go.R4

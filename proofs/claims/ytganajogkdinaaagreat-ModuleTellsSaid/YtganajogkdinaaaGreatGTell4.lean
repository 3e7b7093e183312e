import Derived.Test.YtganajogkdinaaaGreatGForm
import Derived.Test.YtganajogkdinaaaGreatGOdd4
set_option linter.all false
namespace Go.R4
open Go.Proofs Go.Ev Mo
set_option maxRecDepth 100000
def AInst.wf (x : AInst) : Prop := inR .i64 x.Op ∧ inR .i64 x.A ∧ inR .i64 x.B ∧ inR .u64 x.N ∧ x.L.length * 8 ≤ bigN ∧ (∀ y ∈ x.L, inR .i64 y)
theorem AInst.dec {n : Nat} {cs : List FV} (h : Fits Tryz.prog (n + 4) 43 cs) : ∃ x : AInst, cs = x.e ∧ x.wf := by
 obtain ⟨parts, rfl, hl, hp⟩ := Fits.struct (n := n + 3) Tryz.underlying43 h
 match parts, hl with
 | [p0, p1, p2, p3, p4], _ =>
  have h0 := hp 0 _ p0 rfl rfl
  obtain ⟨x0, rfl, w0⟩ := Fits.int (n := n + 2) Tryz.underlying3 h0
  have h1 := hp 1 _ p1 rfl rfl
  obtain ⟨x1, rfl, w1⟩ := Fits.int (n := n + 2) Tryz.underlying3 h1
  have h2 := hp 2 _ p2 rfl rfl
  obtain ⟨x2, rfl, w2⟩ := Fits.int (n := n + 2) Tryz.underlying3 h2
  have h3 := hp 3 _ p3 rfl rfl
  obtain ⟨x3, rfl, w3⟩ := Fits.int (n := n + 2) Tryz.underlying41 h3
  have h4 := hp 4 _ p4 rfl rfl
  obtain ⟨x4, rfl, z4, w4⟩ := (Fits.slice (n := n + 2) (sz := 1) (by_ := 8) Tryz.underlying22 (by kernel_rfl) (by kernel_rfl) (fun _ h => Fits.int Tryz.underlying3 h)) h4
  exact ⟨⟨x0, x1, x2, x3, x4⟩, rfl, w0, w1, w2, w3, z4, w4⟩
def Turn.wf (x : Turn) : Prop := inR .i64 x.What ∧ inR .i64 x.At ∧ inR .i64 x.To ∧ inR .u64 x.N ∧ AInst.wf x.Raw
theorem Turn.dec {n : Nat} {cs : List FV} (h : Fits Tryz.prog (n + 8) 152 cs) : ∃ x : Turn, cs = x.e ∧ x.wf := by
 obtain ⟨parts, rfl, hl, hp⟩ := Fits.struct (n := n + 7) Tryz.underlying152 h
 match parts, hl with
 | [p0, p1, p2, p3, p4], _ =>
  have h0 := hp 0 _ p0 rfl rfl
  obtain ⟨x0, rfl, w0⟩ := Fits.int (n := n + 6) Tryz.underlying3 h0
  have h1 := hp 1 _ p1 rfl rfl
  obtain ⟨x1, rfl, w1⟩ := Fits.int (n := n + 6) Tryz.underlying3 h1
  have h2 := hp 2 _ p2 rfl rfl
  obtain ⟨x2, rfl, w2⟩ := Fits.int (n := n + 6) Tryz.underlying3 h2
  have h3 := hp 3 _ p3 rfl rfl
  obtain ⟨x3, rfl, w3⟩ := Fits.int (n := n + 6) Tryz.underlying41 h3
  have h4 := hp 4 _ p4 rfl rfl
  obtain ⟨x4, rfl, w4⟩ := AInst.dec h4
  exact ⟨⟨x0, x1, x2, x3, x4⟩, rfl, w0, w1, w2, w3, w4⟩
def AType.wf (x : AType) : Prop := x.Params.length * 8 ≤ bigN ∧ (∀ y ∈ x.Params, inR .i64 y) ∧ x.Results.length * 8 ≤ bigN ∧ (∀ y ∈ x.Results, inR .i64 y)
theorem AType.dec {n : Nat} {cs : List FV} (h : Fits Tryz.prog (n + 4) 37 cs) : ∃ x : AType, cs = x.e ∧ x.wf := by
 obtain ⟨parts, rfl, hl, hp⟩ := Fits.struct (n := n + 3) Tryz.underlying37 h
 match parts, hl with
 | [p0, p1], _ =>
  have h0 := hp 0 _ p0 rfl rfl
  obtain ⟨x0, rfl, z0, w0⟩ := (Fits.slice (n := n + 2) (sz := 1) (by_ := 8) Tryz.underlying22 (by kernel_rfl) (by kernel_rfl) (fun _ h => Fits.int Tryz.underlying3 h)) h0
  have h1 := hp 1 _ p1 rfl rfl
  obtain ⟨x1, rfl, z1, w1⟩ := (Fits.slice (n := n + 2) (sz := 1) (by_ := 8) Tryz.underlying22 (by kernel_rfl) (by kernel_rfl) (fun _ h => Fits.int Tryz.underlying3 h)) h1
  exact ⟨⟨x0, x1⟩, rfl, z0, w0, z1, w1⟩
def AImport.wf (x : AImport) : Prop := x.Module.size ≤ bigN ∧ x.Name.size ≤ bigN ∧ inR .i64 x.fType
theorem AImport.dec {n : Nat} {cs : List FV} (h : Fits Tryz.prog (n + 4) 55 cs) : ∃ x : AImport, cs = x.e ∧ x.wf := by
 obtain ⟨parts, rfl, hl, hp⟩ := Fits.struct (n := n + 3) Tryz.underlying55 h
 match parts, hl with
 | [p0, p1, p2], _ =>
  have h0 := hp 0 _ p0 rfl rfl
  obtain ⟨x0, rfl, w0⟩ := Fits.str (n := n + 2) Tryz.underlying9 h0
  have h1 := hp 1 _ p1 rfl rfl
  obtain ⟨x1, rfl, w1⟩ := Fits.str (n := n + 2) Tryz.underlying9 h1
  have h2 := hp 2 _ p2 rfl rfl
  obtain ⟨x2, rfl, w2⟩ := Fits.int (n := n + 2) Tryz.underlying3 h2
  exact ⟨⟨x0, x1, x2⟩, rfl, w0, w1, w2⟩
def AFunc.wf (x : AFunc) : Prop := inR .i64 x.fType ∧ x.Locals.length * 8 ≤ bigN ∧ (∀ y ∈ x.Locals, inR .i64 y) ∧ x.Code.length * 56 ≤ bigN ∧ (∀ y ∈ x.Code, AInst.wf y)
theorem AFunc.dec {n : Nat} {cs : List FV} (h : Fits Tryz.prog (n + 6) 40 cs) : ∃ x : AFunc, cs = x.e ∧ x.wf := by
 obtain ⟨parts, rfl, hl, hp⟩ := Fits.struct (n := n + 5) Tryz.underlying40 h
 match parts, hl with
 | [p0, p1, p2], _ =>
  have h0 := hp 0 _ p0 rfl rfl
  obtain ⟨x0, rfl, w0⟩ := Fits.int (n := n + 4) Tryz.underlying3 h0
  have h1 := hp 1 _ p1 rfl rfl
  obtain ⟨x1, rfl, z1, w1⟩ := (Fits.slice (n := n + 4) (sz := 1) (by_ := 8) Tryz.underlying22 (by kernel_rfl) (by kernel_rfl) (fun _ h => Fits.int Tryz.underlying3 h)) h1
  have h2 := hp 2 _ p2 rfl rfl
  obtain ⟨x2, rfl, z2, w2⟩ := (Fits.slice (n := n + 4) (sz := 5) (by_ := 56) Tryz.underlying38 (by kernel_rfl) (by kernel_rfl) (fun _ h => AInst.dec h)) h2
  exact ⟨⟨x0, x1, x2⟩, rfl, w0, z1, w1, z2, w2⟩
def AMem.wf (x : AMem) : Prop := inR .i64 x.Min ∧ inR .i64 x.Max
theorem AMem.dec {n : Nat} {cs : List FV} (h : Fits Tryz.prog (n + 4) 60 cs) : ∃ x : AMem, cs = x.e ∧ x.wf := by
 obtain ⟨parts, rfl, hl, hp⟩ := Fits.struct (n := n + 3) Tryz.underlying60 h
 match parts, hl with
 | [p0, p1], _ =>
  have h0 := hp 0 _ p0 rfl rfl
  obtain ⟨x0, rfl, w0⟩ := Fits.int (n := n + 2) Tryz.underlying3 h0
  have h1 := hp 1 _ p1 rfl rfl
  obtain ⟨x1, rfl, w1⟩ := Fits.int (n := n + 2) Tryz.underlying3 h1
  exact ⟨⟨x0, x1⟩, rfl, w0, w1⟩
def AGlobal.wf (x : AGlobal) : Prop := inR .i64 x.fType ∧ inR .u64 x.Init
theorem AGlobal.dec {n : Nat} {cs : List FV} (h : Fits Tryz.prog (n + 4) 48 cs) : ∃ x : AGlobal, cs = x.e ∧ x.wf := by
 obtain ⟨parts, rfl, hl, hp⟩ := Fits.struct (n := n + 3) Tryz.underlying48 h
 match parts, hl with
 | [p0, p1, p2], _ =>
  have h0 := hp 0 _ p0 rfl rfl
  obtain ⟨x0, rfl, w0⟩ := Fits.int (n := n + 2) Tryz.underlying3 h0
  have h1 := hp 1 _ p1 rfl rfl
  obtain ⟨x1, rfl⟩ := Fits.bool (n := n + 2) Tryz.underlying4 h1
  have h2 := hp 2 _ p2 rfl rfl
  obtain ⟨x2, rfl, w2⟩ := Fits.int (n := n + 2) Tryz.underlying41 h2
  exact ⟨⟨x0, x1, x2⟩, rfl, w0, w2⟩
def AExport.wf (x : AExport) : Prop := x.Name.size ≤ bigN ∧ inR .i64 x.Kind ∧ inR .i64 x.Index
theorem AExport.dec {n : Nat} {cs : List FV} (h : Fits Tryz.prog (n + 4) 62 cs) : ∃ x : AExport, cs = x.e ∧ x.wf := by
 obtain ⟨parts, rfl, hl, hp⟩ := Fits.struct (n := n + 3) Tryz.underlying62 h
 match parts, hl with
 | [p0, p1, p2], _ =>
  have h0 := hp 0 _ p0 rfl rfl
  obtain ⟨x0, rfl, w0⟩ := Fits.str (n := n + 2) Tryz.underlying9 h0
  have h1 := hp 1 _ p1 rfl rfl
  obtain ⟨x1, rfl, w1⟩ := Fits.int (n := n + 2) Tryz.underlying3 h1
  have h2 := hp 2 _ p2 rfl rfl
  obtain ⟨x2, rfl, w2⟩ := Fits.int (n := n + 2) Tryz.underlying3 h2
  exact ⟨⟨x0, x1, x2⟩, rfl, w0, w1, w2⟩
def AData.wf (x : AData) : Prop := inR .i64 x.Mem ∧ inR .i64 x.At ∧ x.Bytes.length * 1 ≤ bigN ∧ (∀ y ∈ x.Bytes, inR .u8 y)
theorem AData.dec {n : Nat} {cs : List FV} (h : Fits Tryz.prog (n + 4) 46 cs) : ∃ x : AData, cs = x.e ∧ x.wf := by
 obtain ⟨parts, rfl, hl, hp⟩ := Fits.struct (n := n + 3) Tryz.underlying46 h
 match parts, hl with
 | [p0, p1, p2, p3], _ =>
  have h0 := hp 0 _ p0 rfl rfl
  obtain ⟨x0, rfl⟩ := Fits.bool (n := n + 2) Tryz.underlying4 h0
  have h1 := hp 1 _ p1 rfl rfl
  obtain ⟨x1, rfl, w1⟩ := Fits.int (n := n + 2) Tryz.underlying3 h1
  have h2 := hp 2 _ p2 rfl rfl
  obtain ⟨x2, rfl, w2⟩ := Fits.int (n := n + 2) Tryz.underlying3 h2
  have h3 := hp 3 _ p3 rfl rfl
  obtain ⟨x3, rfl, z3, w3⟩ := (Fits.slice (n := n + 2) (sz := 1) (by_ := 1) Tryz.underlying44 (by kernel_rfl) (by kernel_rfl) (fun _ h => Fits.int Tryz.underlying5 h)) h3
  exact ⟨⟨x0, x1, x2, x3⟩, rfl, w1, w2, z3, w3⟩
def ACustom.wf (x : ACustom) : Prop := x.Name.size ≤ bigN ∧ x.Bytes.length * 1 ≤ bigN ∧ (∀ y ∈ x.Bytes, inR .u8 y)
theorem ACustom.dec {n : Nat} {cs : List FV} (h : Fits Tryz.prog (n + 4) 64 cs) : ∃ x : ACustom, cs = x.e ∧ x.wf := by
 obtain ⟨parts, rfl, hl, hp⟩ := Fits.struct (n := n + 3) Tryz.underlying64 h
 match parts, hl with
 | [p0, p1], _ =>
  have h0 := hp 0 _ p0 rfl rfl
  obtain ⟨x0, rfl, w0⟩ := Fits.str (n := n + 2) Tryz.underlying9 h0
  have h1 := hp 1 _ p1 rfl rfl
  obtain ⟨x1, rfl, z1, w1⟩ := (Fits.slice (n := n + 2) (sz := 1) (by_ := 1) Tryz.underlying44 (by kernel_rfl) (by kernel_rfl) (fun _ h => Fits.int Tryz.underlying5 h)) h1
  exact ⟨⟨x0, x1⟩, rfl, w0, z1, w1⟩
def AModule.wf (x : AModule) : Prop := x.Types.length * 48 ≤ bigN ∧ (∀ y ∈ x.Types, AType.wf y) ∧ x.Imports.length * 40 ≤ bigN ∧ (∀ y ∈ x.Imports, AImport.wf y) ∧ x.Funcs.length * 56 ≤ bigN ∧ (∀ y ∈ x.Funcs, AFunc.wf y) ∧ x.Mems.length * 16 ≤ bigN ∧ (∀ y ∈ x.Mems, AMem.wf y) ∧ x.Globals.length * 24 ≤ bigN ∧ (∀ y ∈ x.Globals, AGlobal.wf y) ∧ x.Exports.length * 32 ≤ bigN ∧ (∀ y ∈ x.Exports, AExport.wf y) ∧ x.Datas.length * 48 ≤ bigN ∧ (∀ y ∈ x.Datas, AData.wf y) ∧ x.Customs.length * 40 ≤ bigN ∧ (∀ y ∈ x.Customs, ACustom.wf y)
theorem AModule.dec {n : Nat} {cs : List FV} (h : Fits Tryz.prog (n + 8) 32 cs) : ∃ x : AModule, cs = x.e ∧ x.wf := by
 obtain ⟨parts, rfl, hl, hp⟩ := Fits.struct (n := n + 7) Tryz.underlying32 h
 match parts, hl with
 | [p0, p1, p2, p3, p4, p5, p6, p7], _ =>
  have h0 := hp 0 _ p0 rfl rfl
  obtain ⟨x0, rfl, z0, w0⟩ := (Fits.slice (n := n + 6) (sz := 2) (by_ := 48) Tryz.underlying23 (by kernel_rfl) (by kernel_rfl) (fun _ h => AType.dec h)) h0
  have h1 := hp 1 _ p1 rfl rfl
  obtain ⟨x1, rfl, z1, w1⟩ := (Fits.slice (n := n + 6) (sz := 3) (by_ := 40) Tryz.underlying24 (by kernel_rfl) (by kernel_rfl) (fun _ h => AImport.dec h)) h1
  have h2 := hp 2 _ p2 rfl rfl
  obtain ⟨x2, rfl, z2, w2⟩ := (Fits.slice (n := n + 6) (sz := 3) (by_ := 56) Tryz.underlying25 (by kernel_rfl) (by kernel_rfl) (fun _ h => AFunc.dec h)) h2
  have h3 := hp 3 _ p3 rfl rfl
  obtain ⟨x3, rfl, z3, w3⟩ := (Fits.slice (n := n + 6) (sz := 2) (by_ := 16) Tryz.underlying26 (by kernel_rfl) (by kernel_rfl) (fun _ h => AMem.dec h)) h3
  have h4 := hp 4 _ p4 rfl rfl
  obtain ⟨x4, rfl, z4, w4⟩ := (Fits.slice (n := n + 6) (sz := 3) (by_ := 24) Tryz.underlying27 (by kernel_rfl) (by kernel_rfl) (fun _ h => AGlobal.dec h)) h4
  have h5 := hp 5 _ p5 rfl rfl
  obtain ⟨x5, rfl, z5, w5⟩ := (Fits.slice (n := n + 6) (sz := 3) (by_ := 32) Tryz.underlying28 (by kernel_rfl) (by kernel_rfl) (fun _ h => AExport.dec h)) h5
  have h6 := hp 6 _ p6 rfl rfl
  obtain ⟨x6, rfl, z6, w6⟩ := (Fits.slice (n := n + 6) (sz := 4) (by_ := 48) Tryz.underlying29 (by kernel_rfl) (by kernel_rfl) (fun _ h => AData.dec h)) h6
  have h7 := hp 7 _ p7 rfl rfl
  obtain ⟨x7, rfl, z7, w7⟩ := (Fits.slice (n := n + 6) (sz := 2) (by_ := 40) Tryz.underlying30 (by kernel_rfl) (by kernel_rfl) (fun _ h => ACustom.dec h)) h7
  exact ⟨⟨x0, x1, x2, x3, x4, x5, x6, x7⟩, rfl, z0, w0, z1, w1, z2, w2, z3, w3, z4, w4, z5, w5, z6, w6, z7, w7⟩
theorem set_same {α : Type} {l : List α} {i : Nat} {e : α} (h : l[i]? = some e) : l.set i e = l := by
 obtain ⟨hi, rfl⟩ := List.getElem?_eq_some_iff.1 h; exact List.set_getElem_self hi
theorem take_next {α : Type} {l : List α} {x : Int} (h0 : 0 ≤ x) {e : α} (he : l[x.toNat]? = some e) : l.take x.toNat ++ [e] = l.take (x + 1).toNat := by
 rw [show (x + 1).toNat = x.toNat + 1 from by omega, List.take_add_one, he]; rfl
theorem fit_of {n : Nat} {m : AModule} (h : OddOk n m) (hn : n ≤ 100) (hX : OddX m) : Fit m := by
 have hb := bN
 obtain ⟨t, i, f, me, g, e, d, c, fs⟩ := h
 refine ⟨by omega, by omega, by omega, by omega, by omega, by omega, by omega, by omega, fun x hx => ?_, fun x hx => ⟨?_, ?_, fun y hy => ?_⟩⟩
 ·have := hX.t x hx; exact ⟨by omega, by omega⟩
 ·have := fs x hx; omega
 ·have := fs x hx; omega
 ·have := hX.f x hx y hy; unfold LB at this; omega
theorem fit_wf {m : AModule} (h : m.wf) : Fit m := by
 have hb := bN
 obtain ⟨a1, a2, b1, b2, c1, c2, d1, d2, e1, e2, f1, f2, g1, g2, h1, h2⟩ := h
 refine ⟨by omega, by omega, by omega, by omega, by omega, by omega, by omega, by omega, fun x hx => ?_, fun x hx => ?_⟩
 ·obtain ⟨q1, -, q2, -⟩ := a2 x hx; exact ⟨by omega, by omega⟩
 ·obtain ⟨-, q1, -, q2, q3⟩ := c2 x hx
  exact ⟨by omega, by omega, fun y hy => by obtain ⟨-, -, -, -, q, -⟩ := q3 y hy; omega⟩
theorem copy_wp {n : Nat} {m : AModule} (h : OddOk n m) (hn : n ≤ 100) (hX : OddX m) : Wp (fun k => module_Copy.f k m) (· = (m.Imports, m.Mems, m.Globals, m.Exports, m.Types, m.Funcs, m.Datas, m.Customs)) := by
 have hb := bN
 obtain ⟨t, i, f, me, g, e, d, c, fs⟩ := h
 refine .succ ?_
 simp only [module_Copy.f]
 refine .bind (tick_wp (room_small (by omega) (by omega))) (fun _ _ => .bind (tick_wp (room_small (by omega) (by omega))) (fun _ _ => .bind (tick_wp (room_small (by omega) (by omega))) (fun _ _ => .bind (tick_wp (room_small (by omega) (by omega))) (fun _ _ => ?_))))
 refine .bind (Q := fun r => r = m.Types) ?_ (fun r1 hr1 => .bind (Q := fun r => r = m.Funcs) ?_ (fun r2 hr2 => .bind (Q := fun r => r = m.Datas) ?_ (fun r3 hr3 => .bind (Q := fun r => r = m.Customs) ?_ (fun r4 hr4 => .one (by rw [hr1, hr2, hr3, hr4])))))
 ·refine .loop (fun (n : Nat) (v : Int × List AType) => 0 ≤ v.1 ∧ v.1 + (n : Int) = m.Types.length ∧ v.2 = m.Types.take v.1.toNat) (fun n v hv => ?_) (n := m.Types.length) ⟨by simp, by simp, by simp⟩
  obtain ⟨x, a⟩ := v
  obtain ⟨h1, h2, h3⟩ := hv
  dsimp only at h1 h2 h3
  subst h3
  simp only [module_Copy.b3]
  refine .ite (fun hlt => .bind (.idx h1 hlt) (fun y hy => ?_)) (fun hge => .right (List.take_of_length_le (by omega)))
  have := hX.t y (List.mem_of_getElem? hy)
  refine .bind (own_wp (by omega) (by omega)) (fun r hr => ?_)
  subst hr
  refine .pos (room_small (by rw [List.length_take]; omega) (by rw [List.length_take]; omega)) (.left ⟨n - 1, by omega, ?_⟩)
  rw [iadd64 (by omega) (by omega)]
  exact ⟨by dsimp only; omega, by dsimp only; omega, take_next h1 hy⟩
 ·refine .loop (fun (n : Nat) (v : Int × List AFunc) => 0 ≤ v.1 ∧ v.1 + (n : Int) = m.Funcs.length ∧ v.2 = m.Funcs.take v.1.toNat) (fun n v hv => ?_) (n := m.Funcs.length) ⟨by simp, by simp, by simp⟩
  obtain ⟨x, a⟩ := v
  obtain ⟨h1, h2, h3⟩ := hv
  dsimp only at h1 h2 h3
  subst h3
  simp only [module_Copy.b8]
  refine .ite (fun hlt => .bind (.idx h1 hlt) (fun y hy => ?_)) (fun hge => .right (List.take_of_length_le (by omega)))
  have hm := List.mem_of_getElem? hy
  obtain ⟨y1, y2⟩ := fs y hm
  have yL := hX.f y hm
  refine .bind (tick_wp (room_small (by omega) (by omega))) (fun _ _ => .bind (Q := fun r => r = y.Code) ?_ (fun r hr => ?_))
  ·refine .loop (fun (n : Nat) (v : Int × List AInst) => 0 ≤ v.1 ∧ v.1 + (n : Int) = y.Code.length ∧ v.2 = y.Code) (fun n v hv => ?_) (n := y.Code.length) ⟨by simp, by simp, rfl⟩
   obtain ⟨z, b⟩ := v
   obtain ⟨g1, g2, g3⟩ := hv
   dsimp only at g1 g2 g3
   subst g3
   simp only [module_Copy.b12]
   refine .ite (fun hz => ?_) (fun hge => .right rfl)
   refine .pos ⟨g1, hz⟩ (.bind (.get (by omega)) (fun u hu => ?_))
   have hu' := yL u (List.mem_of_getElem? hu)
   unfold LB at hu'
   refine .bind (tick_wp (room_small (by omega) (by omega))) (fun _ _ => .pos ⟨g1, hz⟩ (.bind (.get (by omega)) (fun w hw => ?_)))
   rw [hu] at hw; cases hw
   rw [show y.Code.set z.toNat (AInst.mk u.Op u.A u.B u.N u.L) = y.Code from set_same hu]
   refine .left ⟨n - 1, by omega, ?_⟩
   rw [iadd64 (by omega) (by omega)]
   exact ⟨by dsimp only; omega, by dsimp only; omega, rfl⟩
  ·subst hr
   refine .bind (tick_wp (room_small (by omega) (by omega))) (fun _ _ => .pos (room_small (by rw [List.length_take]; omega) (by rw [List.length_take]; omega)) (.left ⟨n - 1, by omega, ?_⟩))
   rw [iadd64 (by omega) (by omega)]
   exact ⟨by dsimp only; omega, by dsimp only; omega, take_next h1 hy⟩
 ·refine .loop (fun (n : Nat) (v : Int × List AData) => 0 ≤ v.1 ∧ v.1 + (n : Int) = m.Datas.length ∧ v.2 = m.Datas.take v.1.toNat) (fun n v hv => ?_) (n := m.Datas.length) ⟨by simp, by simp, by simp⟩
  obtain ⟨x, a⟩ := v
  obtain ⟨h1, h2, h3⟩ := hv
  dsimp only at h1 h2 h3
  subst h3
  simp only [module_Copy.b19]
  refine .ite (fun hlt => .bind (.idx h1 hlt) (fun y hy => ?_)) (fun hge => .right (List.take_of_length_le (by omega)))
  have := hX.d y (List.mem_of_getElem? hy)
  refine .bind (tick_wp (room_small (by omega) (by omega))) (fun _ _ => .pos (room_small (by rw [List.length_take]; omega) (by rw [List.length_take]; omega)) (.left ⟨n - 1, by omega, ?_⟩))
  rw [iadd64 (by omega) (by omega)]
  exact ⟨by dsimp only; omega, by dsimp only; omega, take_next h1 hy⟩
 ·refine .loop (fun (n : Nat) (v : Int × List ACustom) => 0 ≤ v.1 ∧ v.1 + (n : Int) = m.Customs.length ∧ v.2 = m.Customs.take v.1.toNat) (fun n v hv => ?_) (n := m.Customs.length) ⟨by simp, by simp, by simp⟩
  obtain ⟨x, a⟩ := v
  obtain ⟨h1, h2, h3⟩ := hv
  dsimp only at h1 h2 h3
  subst h3
  simp only [module_Copy.b25]
  refine .ite (fun hlt => .bind (.idx h1 hlt) (fun y hy => ?_)) (fun hge => .right (List.take_of_length_le (by omega)))
  have := hX.c y (List.mem_of_getElem? hy)
  refine .bind (tick_wp (room_small (by omega) (by omega))) (fun _ _ => .pos (room_small (by rw [List.length_take]; omega) (by rw [List.length_take]; omega)) (.left ⟨n - 1, by omega, ?_⟩))
  rw [iadd64 (by omega) (by omega)]
  exact ⟨by dsimp only; omega, by dsimp only; omega, take_next h1 hy⟩
theorem tyAt_len {T : List AType} (hT : ∀ t ∈ T, t.Params.length ≤ 1000 ∧ t.Results.length ≤ 1000) (t : Int) : (tyAt T t).1.Params.length ≤ 1000 ∧ (tyAt T t).1.Results.length ≤ 1000 := by
 unfold tyAt
 split
 ·split
  ·rename_i x hx; exact hT _ (List.mem_of_getElem? hx)
  ·exact ⟨by simp [noT], by simp [noT]⟩
 ·exact ⟨by simp [noT], by simp [noT]⟩
theorem sigR_len {T : List AType} {I : List AImport} {F : List AFunc} (hT : ∀ t ∈ T, t.Params.length ≤ 1000 ∧ t.Results.length ≤ 1000) (f : Int) : (sigR T I F f).1.Params.length ≤ 1000 ∧ (sigR T I F f).1.Results.length ≤ 1000 := by
 unfold sigR
 split
 ·exact tyAt_len hT _
 ·exact ⟨by simp [noT], by simp [noT]⟩
theorem blkR_len {T : List AType} (hT : ∀ t ∈ T, t.Params.length ≤ 1000 ∧ t.Results.length ≤ 1000) (a : Int) : (blkR T a).1.Params.length ≤ 1000 ∧ (blkR T a).1.Results.length ≤ 1000 := by
 unfold blkR
 repeat' split
 all_goals first | exact tyAt_len hT _ | exact ⟨by simp [noT], by simp [noT]⟩
theorem locR_len {T : List AType} {I : List AImport} {F : List AFunc} (hT : ∀ t ∈ T, t.Params.length ≤ 1000 ∧ t.Results.length ≤ 1000) (hF : ∀ g ∈ F, g.Locals.length ≤ 2000) (f : Int) : (locR T I F f).length ≤ 3000 := by
 unfold locR
 split
 ·split
  ·rename_i g hg
   have := hF g (List.mem_of_getElem? hg)
   have := (sigR_len (T := T) (I := I) (F := F) hT f).1
   rw [List.length_append]; omega
  ·simp
 ·simp
theorem same_wp {n : Nat} {m : AModule} (h : OddOk n m) (hn : n ≤ 100) (hX : OddX m) {a f : Int} (h1 : -9223372036854775808 ≤ f) (h2 : f ≤ 9223372036854775807) : Wp (fun k => law6_same.f k m a f) (· = true) := by
 have hb := bN
 have hfit := fit_of h hn hX
 have hcopy := copy_wp h hn hX
 obtain ⟨t, i, fu, me, g, e, d, c, fs⟩ := h
 have hT : FineT m.Types := fun x hx => by have := hX.t x hx; exact ⟨by omega, by omega⟩
 have hI : m.Imports.length ≤ bigN := by omega
 have hF : m.Funcs.length ≤ bigN := by omega
 have hr : ∀ g ∈ m.Funcs, ((sigR m.Types m.Imports m.Funcs f).1.Params.length + g.Locals.length) * 8 ≤ 140737488355328 := fun g hg => by
  have := (sigR_len (I := m.Imports) (F := m.Funcs) hX.t f).1
  have := (fs g hg).2
  omega
 have b1 := blkR_len hX.t a
 have s1 := sigR_len (I := m.Imports) (F := m.Funcs) hX.t f
 have l1 := locR_len (I := m.Imports) (F := m.Funcs) hX.t (fun g hg => by have := (fs g hg).2; omega) f
 refine .succ ?_
 simp only [law6_same.f]
 refine .bind (mblock_wp hT a) (fun r hr1 => .bind (rblock_wp a) (fun r' hr2 => ?_))
 subst hr1; subst hr2
 refine .bind (msig_wp hT hI hF h1 h2) (fun r hr1 => .bind (rsig_wp hI hF h1 h2) (fun r' hr2 => ?_))
 subst hr1; subst hr2
 refine .bind (right_wp m hfit) (fun r hr1 => .bind (rright_wp m hfit) (fun r' hr2 => .pos (hr1.eq hr2) (.pos (by simp) ?_)))
 refine .bind (types6_wp _ _ ⟨by omega, by omega⟩) (fun r hr1 => .tif hr1 (fun _ => .pos (by simp) ?_) (fun q => (q ⟨rfl, rfl⟩).elim))
 refine .bind (types6_wp _ _ ⟨by omega, by omega⟩) (fun r hr1 => .tif hr1 (fun _ => ?_) (fun q => (q ⟨rfl, rfl⟩).elim))
 refine .bind (mlocals_wp hT hI hF h1 h2 hr) (fun r hr1 => .bind (rlocals_wp hI hF h1 h2 hr) (fun r' hr2 => ?_))
 obtain ⟨r1, r2⟩ := r
 subst hr2
 dsimp only at hr1 ⊢
 rw [List.drop_zero, hr1.2]
 refine .bind (bsame_wp _ _ (by omega)) (fun r hr1 => .pos (by rw [hr1]; simp) ?_)
 refine .bind hcopy (fun r hr1 => ?_)
 subst hr1
 dsimp only
 refine .bind (rsame_wp m m hfit) (fun r hr1 => .pos (hr1.2 (alikeM_self m)) ?_)
 exact .bind (msame_wp m m hfit) (fun r hr1 => .one (hr1.2 (alikeM_self m)))
theorem ModuleTells {l : List Int} {odd : List Turn} {i : AInst} {a f : Int} {raw : AModule} (z0 : l.length * 8 ≤ bigN) (w0 : ∀ y ∈ l, inR .i64 y) (z1 : odd.length * 88 ≤ bigN) (w1 : ∀ y ∈ odd, Turn.wf y) (w2 : i.wf) (w3 : inR .i64 a) (w4 : inR .i64 f) (w5 : raw.wf) : ∃ k, law6_ModuleTells.f k l odd i a f raw = some true := by
 have hb := bN
 refine Wp.fuel (.succ ?_)
 simp only [law6_ModuleTells.f]
 refine .bind (module_wp (by omega)) (fun r hr => ?_)
 obtain ⟨T, I, G, D, F, M, E⟩ := r
 dsimp only at hr ⊢
 have o1 := odd_start hr
 have x1 := oddx_start hr
 have hf := fit_of o1 (by omega) x1
 have q1 : -9223372036854775808 ≤ f := w4.1
 have q2 : f ≤ 9223372036854775807 := w4.2
 refine .bind (Odd_wp o1 x1 (fun t ht => by obtain ⟨-, -, -, -, q⟩ := w1 t ht; exact q.2.2.2.2.1) (by omega)) (fun m hm => ?_)
 obtain ⟨o2, x2⟩ := hm
 refine .bind (same_wp o1 (by omega) x1 q1 q2) (fun r hr => .pos hr ?_)
 refine .bind (same_wp o2 (by omega) x2 q1 q2) (fun r hr => .pos hr ?_)
 refine .bind (inst_wp i) (fun r hr => .bind (refinst_wp i (by have := w2.2.2.2.2.1; omega)) (fun r' hr' => .pos (by rw [hr.eq hr']; simp) ?_))
 refine .bind (msame_wp _ m hf) (fun r hr => .bind (rsame_wp _ m hf) (fun r' hr' => .pos (by rw [hr.eq hr']; simp) ?_))
 have hw := fit_wf w5
 refine .bind (right_wp raw hw) (fun r hr => .bind (rright_wp raw hw) (fun r' hr' => .pos (hr.eq hr') ?_))
 exact .bind known6_wp (fun r hr => .one hr)
end Go.R4

import Derived.Test.YtfjpaakonepafaaGOddD
import Derived.Test.YtfjpaakonepafaaEvIn
import Derived.KernelRfl
set_option linter.all false
namespace Go.R3K
open Go.Proofs Go.Ev Mo
set_option maxRecDepth 100000
theorem sizes_wp {a b : List Int} (h : (a.length + b.length) * 8 ≤ 140737488355328) : Wp (fun k => loopS (Concat_47.b3 k [a, b]) k ((0 : Int), (0 : Int))) (· = ((a.length + b.length : Nat) : Int)) := by
 refine .loop (fun (n : Nat) (v : Int × Int) => (v = (0, 0) ∧ n = 2) ∨ (v = ((a.length : Int), 1) ∧ n = 1) ∨ (v = (((a.length + b.length : Nat) : Int), 2) ∧ n = 0)) (fun n v hv => ?_) (n := 2) (.inl ⟨rfl, rfl⟩)
 simp only [Concat_47.b3]
 rcases hv with ⟨rfl, rfl⟩ | ⟨rfl, rfl⟩ | ⟨rfl, rfl⟩
 ·refine .pos (by simp) (.pos (by simp) (.bind (Q := (· = a)) ⟨a, rfl, 0, fun _ _ => rfl⟩ (fun e he => ?_)))
  subst he
  rw [iadd64 (by omega) (by omega)]
  refine .neg (by omega) (.left ⟨1, by omega, .inr (.inl ⟨?_, rfl⟩)⟩)
  rw [iadd64 (by omega) (by omega)]; simp
 ·refine .pos (by simp) (.pos (by simp) (.bind (Q := (· = b)) ⟨b, rfl, 0, fun _ _ => rfl⟩ (fun e he => ?_)))
  subst he
  rw [iadd64 (by omega) (by omega)]
  refine .neg (by omega) (.left ⟨0, by omega, .inr (.inr ⟨?_, rfl⟩)⟩)
  rw [iadd64 (by omega) (by omega)]; simp
 ·exact .neg (by simp) (.right rfl)
theorem joins_wp {a b r : List Int} (h : (a.length + b.length) * 8 ≤ 140737488355328) (hr : r = []) : Wp (fun k => loopS (Concat_47.b11 k [a, b]) k ((0 : Int), r)) (· = a ++ b) := by
 subst hr
 refine .loop (fun (n : Nat) (v : Int × List Int) => (v = (0, []) ∧ n = 2) ∨ (v = (1, a) ∧ n = 1) ∨ (v = (2, a ++ b) ∧ n = 0)) (fun n v hv => ?_) (n := 2) (.inl ⟨rfl, rfl⟩)
 simp only [Concat_47.b11]
 rcases hv with ⟨rfl, rfl⟩ | ⟨rfl, rfl⟩ | ⟨rfl, rfl⟩
 ·refine .pos (by simp) (.pos (by simp) (.bind (Q := (· = a)) ⟨a, rfl, 0, fun _ _ => rfl⟩ (fun e he => ?_)))
  subst he
  refine .pos (room_small (by simp only [List.length_nil]; omega) (by simp only [List.length_nil]; omega)) (.left ⟨1, by omega, .inr (.inl ⟨?_, rfl⟩)⟩)
  rw [iadd64 (by omega) (by omega)]; simp
 ·refine .pos (by simp) (.pos (by simp) (.bind (Q := (· = b)) ⟨b, rfl, 0, fun _ _ => rfl⟩ (fun e he => ?_)))
  subst he
  refine .pos (room_small (by dsimp only; omega) (by dsimp only; omega)) (.left ⟨0, by omega, .inr (.inr ⟨?_, rfl⟩)⟩)
  rw [iadd64 (by omega) (by omega)]; simp
 ·exact .neg (by simp) (.right rfl)
theorem grow_wp {n : Int} (h0 : 0 ≤ n) (h : n * 8 ≤ 140737488355328) : Wp (fun k => Grow_65.f k n) (· = []) := by
 refine .succ ?_
 simp only [Grow_65.f]
 have e : isub .i64 n 0 = n := (isub64 (by omega) (by omega)).trans (by omega)
 rw [e]
 refine .neg (by omega) (.ite (fun hp => ?_) (fun _ => .one rfl))
 refine .pos ⟨h0, room_small (by omega) (by omega)⟩ (.pos ⟨by omega, by omega, by omega⟩ (.pos (by omega) (.one ?_)))
 simp
theorem concat_wp {a b : List Int} (h : (a.length + b.length) * 8 ≤ 140737488355328) : Wp (fun k => Concat_47.f k [a, b]) (· = a ++ b) := by
 refine .succ ?_
 simp only [Concat_47.f]
 refine .bind (sizes_wp h) (fun n hn => .bind (grow_wp (by omega) (by omega)) (fun r hr => .bind (joins_wp h hr) (fun x hx => .one hx)))
theorem bsame_wp (a b : List Int) (hb : a.length ≤ 4000000000000000000) : Wp (fun k => book_Same_23.f k a b) (Tell (a = b)) := by
 refine .succ ?_
 simp only [book_Same_23.f]
 exact eq_wp a b hb
theorem locals_wp {f : AFunc} {ts : List Int} (hl : (f.Locals.length + ts.length) * 8 ≤ 140737488355328) (hc : f.Code.length * 56 ≤ 140737488355328) (hs : ∀ i ∈ f.Code, Lv i) :
  Wp (fun k => draft_Locals_1.f k f ts) (· = (f.fType, (f.Locals.length : Int), f.Locals ++ ts, f.Code)) := by
 refine .succ ?_
 simp only [draft_Locals_1.f]
 refine .bind (concat_wp hl) (fun r hr => .bind (leaveG_wp (by omega) hc hs) (fun c hc' => .one ?_))
 rw [leaveL_0] at hc'
 rw [hr, hc']
def AInst.wf (x : AInst) : Prop := inR .i64 x.Op ∧ inR .i64 x.A ∧ inR .i64 x.B ∧ inR .u64 x.N ∧ x.L.length * 8 ≤ bigN ∧ (∀ y ∈ x.L, inR .i64 y)
theorem AInst.dec {n : Nat} {cs : List FV} (h : Fits Try.prog (n + 4) 41 cs) : ∃ x : AInst, cs = x.e ∧ x.wf := by
 obtain ⟨parts, rfl, hl, hp⟩ := Fits.struct (n := n + 3) Try.underlying41 h
 match parts, hl with
 | [p0, p1, p2, p3, p4], _ =>
  have h0 := hp 0 _ p0 rfl rfl
  obtain ⟨x0, rfl, w0⟩ := Fits.int (n := n + 2) Try.underlying3 h0
  have h1 := hp 1 _ p1 rfl rfl
  obtain ⟨x1, rfl, w1⟩ := Fits.int (n := n + 2) Try.underlying3 h1
  have h2 := hp 2 _ p2 rfl rfl
  obtain ⟨x2, rfl, w2⟩ := Fits.int (n := n + 2) Try.underlying3 h2
  have h3 := hp 3 _ p3 rfl rfl
  obtain ⟨x3, rfl, w3⟩ := Fits.int (n := n + 2) Try.underlying39 h3
  have h4 := hp 4 _ p4 rfl rfl
  obtain ⟨x4, rfl, z4, w4⟩ := (Fits.slice (n := n + 2) (sz := 1) (by_ := 8) Try.underlying22 (by kernel_rfl) (by kernel_rfl) (fun _ h => Fits.int Try.underlying3 h)) h4
  exact ⟨⟨x0, x1, x2, x3, x4⟩, rfl, w0, w1, w2, w3, z4, w4⟩
def Turn.wf (x : Turn) : Prop := inR .i64 x.What ∧ inR .i64 x.At ∧ inR .i64 x.To ∧ inR .u64 x.N ∧ AInst.wf x.Raw
theorem Turn.dec {n : Nat} {cs : List FV} (h : Fits Try.prog (n + 8) 103 cs) : ∃ x : Turn, cs = x.e ∧ x.wf := by
 obtain ⟨parts, rfl, hl, hp⟩ := Fits.struct (n := n + 7) Try.underlying103 h
 match parts, hl with
 | [p0, p1, p2, p3, p4], _ =>
  have h0 := hp 0 _ p0 rfl rfl
  obtain ⟨x0, rfl, w0⟩ := Fits.int (n := n + 6) Try.underlying3 h0
  have h1 := hp 1 _ p1 rfl rfl
  obtain ⟨x1, rfl, w1⟩ := Fits.int (n := n + 6) Try.underlying3 h1
  have h2 := hp 2 _ p2 rfl rfl
  obtain ⟨x2, rfl, w2⟩ := Fits.int (n := n + 6) Try.underlying3 h2
  have h3 := hp 3 _ p3 rfl rfl
  obtain ⟨x3, rfl, w3⟩ := Fits.int (n := n + 6) Try.underlying39 h3
  have h4 := hp 4 _ p4 rfl rfl
  obtain ⟨x4, rfl, w4⟩ := AInst.dec (n := n + 3) h4
  exact ⟨⟨x0, x1, x2, x3, x4⟩, rfl, w0, w1, w2, w3, w4⟩
def AFunc.wf (x : AFunc) : Prop := inR .i64 x.fType ∧ x.Locals.length * 8 ≤ bigN ∧ (∀ y ∈ x.Locals, inR .i64 y) ∧ x.Code.length * 56 ≤ bigN ∧ (∀ y ∈ x.Code, AInst.wf y)
theorem AFunc.dec {n : Nat} {cs : List FV} (h : Fits Try.prog (n + 8) 37 cs) : ∃ x : AFunc, cs = x.e ∧ x.wf := by
 obtain ⟨parts, rfl, hl, hp⟩ := Fits.struct (n := n + 7) Try.underlying37 h
 match parts, hl with
 | [p0, p1, p2], _ =>
  have h0 := hp 0 _ p0 rfl rfl
  obtain ⟨x0, rfl, w0⟩ := Fits.int (n := n + 6) Try.underlying3 h0
  have h1 := hp 1 _ p1 rfl rfl
  obtain ⟨x1, rfl, z1, w1⟩ := (Fits.slice (n := n + 6) (sz := 1) (by_ := 8) Try.underlying22 (by kernel_rfl) (by kernel_rfl) (fun _ h => Fits.int Try.underlying3 h)) h1
  have h2 := hp 2 _ p2 rfl rfl
  obtain ⟨x2, rfl, z2, w2⟩ := (Fits.slice (n := n + 6) (sz := 5) (by_ := 56) Try.underlying35 (by kernel_rfl) (by kernel_rfl) (fun _ h => AInst.dec h)) h2
  exact ⟨⟨x0, x1, x2⟩, rfl, w0, z1, w1, z2, w2⟩
theorem inst_lv {i : AInst} (h : i.wf) : Lv i := by
 have e : bigN = 140737488351232 := rfl
 obtain ⟨-, a, -, -, n, l⟩ := h
 exact ⟨a, fun x hx => l x hx, by omega⟩
theorem tells_wp {tape : List Int} {odd : List Turn} {fr b : Int} {f : AFunc} {types : List Int} (hl : tape.length ≤ bigN) (ho : odd.length ≤ bigN) (hR : ∀ t ∈ odd, t.wf) (hf : f.wf) (ht : types.length * 8 ≤ bigN) :
  Wp (fun k => law16_DraftTells.f k tape odd fr b f types) (· = true) := by
 have e : bigN = 140737488351232 := rfl
 refine .succ ?_
 simp only [law16_DraftTells.f]
 refine .bind (module_wp hl) (fun r hm => ?_)
 obtain ⟨T, I, G, D, F, M, E⟩ := r
 dsimp only at hm ⊢
 refine .bind (Odd_wp (odd_start hm) (oddx_start hm) (fun t ht => by
  obtain ⟨-, -, -, -, q⟩ := hR t ht
  obtain ⟨-, a, -, -, n, l⟩ := q
  exact ⟨a, fun x hx => l x hx, n⟩) ho) (fun m hmo => ?_)
 obtain ⟨o2, x2⟩ := hmo
 have sz := sz_odd o2 (by omega) x2
 have lv := lv_odd x2
 obtain ⟨-, l1, l2, c1, c2⟩ := hf
 have clv : ∀ i ∈ f.Code, Lv i := fun i hi => inst_lv (c2 i hi)
 refine .seg (Q := fun t => t.length ≤ 20) ?_ (fun ts hts => ?_)
 ·refine .ite (fun h => .pos ⟨by omega, by omega⟩ (.left ?_)) (fun h => .left (by omega))
  rw [List.length_take]; omega
 ·refine .bind (locals_wp (by omega) (by omega) clv) (fun r hr => ?_)
  subst hr
  dsimp only
  refine .bind (within_wp (by decide) (by decide) (by decide)) (fun k hk => .bind (within_wp (by decide) (by decide) (by decide)) (fun b hb => ?_))
  refine .bind (same_wp sz lv ⟨by omega, by omega⟩) (fun r hr => .pos hr (.pos rfl (.pos rfl ?_)))
  refine .pos (room_small (by omega) (by omega)) (.pos (room_small (by omega) (by omega)) (.bind (bsame_wp _ _ (by rw [List.length_append]; omega)) (fun r hr => .pos (hr.2 rfl) ?_)))
  refine .bind (insts6_wp _ _ (by omega) (fun i hi => by have := (clv i hi).n; omega)) (fun r hr => .pos (hr.2 (alike_self fun _ _ => ⟨rfl, rfl, rfl, rfl, rfl⟩)) ?_)
  exact .bind known16_wp (fun r hr => .one hr)
theorem DraftTells {tape : List Int} {odd : List Turn} {fr b : Int} {f : AFunc} {types : List Int} (z0 : tape.length * 8 ≤ bigN) (_ : ∀ y ∈ tape, inR .i64 y) (z1 : odd.length * 88 ≤ bigN) (w1 : ∀ y ∈ odd, Turn.wf y) (_ : inR .i64 fr) (_ : inR .i64 b) (w4 : f.wf) (z5 : types.length * 8 ≤ bigN) (_ : ∀ y ∈ types, inR .i64 y) :
  ∃ k, law16_DraftTells.f k tape odd fr b f types = some true :=
 (tells_wp (by omega) (by omega) w1 w4 z5).fuel
end Go.R3K

import Derived.Test.YtfjpaakonepafaaGMov
set_option linter.all false
namespace Go.R3K
open Go.Proofs Go.Ev Mo
set_option maxRecDepth 100000
theorem setSame {α : Type} {l : List α} {i : Nat} {e : α} (h : l[i]? = some e) : l.set i e = l := by
 obtain ⟨hi, rfl⟩ := List.getElem?_eq_some_iff.1 h; exact List.set_getElem_self hi
def mvI (is : List Int) (l b : Int) (i : AInst) : AInst := if i.Op ∈ is then ⟨i.Op, fromZ i.A l b, i.B, i.N, i.L⟩ else i
def mvE (kind l b : Int) (e : AExport) : AExport := if e.Kind = kind then ⟨e.Name, e.Kind, fromZ e.Index l b⟩ else e
def mvF (is : List Int) (l b : Int) (f : AFunc) : AFunc := ⟨f.fType, f.Locals, f.Code.map (mvI is l b)⟩
def mvM (kind : Int) (is : List Int) (l b : Int) (m : AModule) : AModule := ⟨m.Types, m.Imports, m.Funcs.map (mvF is l b), m.Mems, m.Globals, m.Exports.map (mvE kind l b), m.Datas, m.Customs⟩
theorem codes_wp {l b : Int} {is : List Int} {r : List AInst} (hb : -1000000 ≤ b ∧ b ≤ 1000000) (hi : is.length ≤ 1000) (hr : r.length ≤ 1000000) (hA : ∀ i ∈ r, I64 i.A) :
  Wp (fun k => loopS (draft_moved.b6 k l b is r) k ((0 : Int), r)) (· = r.map (mvI is l b)) := by
 refine mapset_wp (fun x c e hx hc he hm => ?_) (fun c => ?_)
 ·simp only [draft_moved.b6]
  have hx' : (x : Int) < (r.length : Int) := by omega
  have hix : (0 : Int) ≤ (x : Int) ∧ (x : Int) < (c.length : Int) := ⟨by omega, by omega⟩
  have hg : Wp (fun _ => c[(x : Int).toNat]?) (· = e) := ⟨e, rfl, 0, fun _ _ => by rw [Int.toNat_natCast]; exact he⟩
  refine .pos hx' (.seg (Q := fun c' => c' = c.set x (mvI is l b e)) (.pos hix (.bind hg (fun e1 h1 => ?_))) (fun c' h => ?_))
  ·subst h1
   refine .bind (contains2_wp is hi _) (fun q hq => .ite (fun h => ?_) (fun h => ?_))
   ·refine .pos hix (.bind hg (fun e2 h2 => .bind (from_wp (n := e2.A) (by rw [h2]; exact hA _ hm) hb) (fun z hz => .pos hix (.bind hg (fun e3 h3 => .left ?_)))))
    subst h2; subst h3; subst hz
    rw [Int.toNat_natCast]
    unfold mvI
    rw [if_pos (hq.1 h)]
   ·refine .left ?_
    show c = _
    unfold mvI
    rw [if_neg (fun q' => h (hq.2 q')), setSame he]
  ·subst h
   exact .one (by rw [iadd64 (by omega) (by omega)])
 ·simp only [draft_moved.b6]
  exact .neg (by omega) (.one rfl)
theorem exports_wp {l b kind : Int} {r : List AExport} (hb : -1000000 ≤ b ∧ b ≤ 1000000) (hr : r.length ≤ 1000000) (hA : ∀ i ∈ r, I64 i.Index) :
  Wp (fun k => loopS (draft_moved.b13 k l b kind r) k ((0 : Int), r)) (· = r.map (mvE kind l b)) := by
 refine mapset_wp (fun x c e hx hc he hm => ?_) (fun c => ?_)
 ·simp only [draft_moved.b13]
  have hx' : (x : Int) < (r.length : Int) := by omega
  have hix : (0 : Int) ≤ (x : Int) ∧ (x : Int) < (c.length : Int) := ⟨by omega, by omega⟩
  have hg : Wp (fun _ => c[(x : Int).toNat]?) (· = e) := ⟨e, rfl, 0, fun _ _ => by rw [Int.toNat_natCast]; exact he⟩
  refine .pos hx' (.seg (Q := fun c' => c' = c.set x (mvE kind l b e)) (.pos hix (.bind hg (fun e1 h1 => ?_))) (fun c' h => ?_))
  ·subst h1
   refine .ite (fun h => ?_) (fun h => ?_)
   ·refine .pos hix (.bind hg (fun e2 h2 => .bind (from_wp (n := e2.Index) (by rw [h2]; exact hA _ hm) hb) (fun z hz => .pos hix (.bind hg (fun e3 h3 => .left ?_)))))
    subst h2; subst h3; subst hz
    rw [Int.toNat_natCast]
    unfold mvE
    rw [if_pos h]
   ·refine .left ?_
    show c = _
    unfold mvE
    rw [if_neg h, setSame he]
  ·subst h
   exact .one (by rw [iadd64 (by omega) (by omega)])
 ·simp only [draft_moved.b13]
  exact .neg (by omega) (.one rfl)
theorem tickR {n b : Nat} (h : n * b ≤ 140737488355328) (hn : n ≤ 140737488355328) : Wp (fun k => tick n b k) (fun _ => True) := ⟨(), trivial, 1, fun k hk => tick_ok (room_small h hn) (by omega)⟩
theorem own_wp {t : AType} (h1 : t.Params.length ≤ 1000000) (h2 : t.Results.length ≤ 1000000) : Wp (fun k => module_own.f k t) (· = (t.Params, t.Results)) := by
 refine .succ ?_
 simp only [module_own.f]
 exact .bind (tickR (by omega) (by omega)) (fun _ _ => .bind (tickR (by omega) (by omega)) (fun _ _ => .one rfl))
theorem ctypes_wp {T : List AType} (hT : T.length ≤ 1000000) (h : ∀ t ∈ T, t.Params.length ≤ 1000000 ∧ t.Results.length ≤ 1000000) : Wp (fun k => loopS (module_Copy.b3 k T) k ((0 : Int), ([] : List AType))) (· = T) := by
 refine (build_wp (g := fun t : AType => t) (l0 := T) (fun x a e hx ha he hm => ?_) (fun a => ?_)).mono (fun r hr => by rw [hr]; simp)
 ·simp only [module_Copy.b3]
  refine .pos (by omega) (.bind (.idx (by omega) (by omega)) (fun y hy => ?_))
  rw [Int.toNat_natCast, he] at hy; cases hy
  refine .bind (own_wp (h _ hm).1 (h _ hm).2) (fun r hr => ?_)
  subst hr
  exact .pos (room_small (by omega) (by omega)) (.one (by rw [iadd64 (by omega) (by omega)]))
 ·simp only [module_Copy.b3]
  exact .neg (by omega) (.one rfl)
theorem cdatas_wp {D : List AData} (hD : D.length ≤ 1000000) (h : ∀ x ∈ D, x.Bytes.length ≤ 10000000) : Wp (fun k => loopS (module_Copy.b19 k D) k ((0 : Int), ([] : List AData))) (· = D) := by
 refine (build_wp (g := fun t : AData => t) (l0 := D) (fun x a e hx ha he hm => ?_) (fun a => ?_)).mono (fun r hr => by rw [hr]; simp)
 ·simp only [module_Copy.b19]
  refine .pos (by omega) (.bind (.idx (by omega) (by omega)) (fun y hy => ?_))
  rw [Int.toNat_natCast, he] at hy; cases hy
  have := h _ hm
  exact .bind (tickR (by omega) (by omega)) (fun _ _ => .pos (room_small (by omega) (by omega)) (.one (by rw [iadd64 (by omega) (by omega)])))
 ·simp only [module_Copy.b19]
  exact .neg (by omega) (.one rfl)
theorem ccustoms_wp {D : List ACustom} (hD : D.length ≤ 1000000) (h : ∀ x ∈ D, x.Bytes.length ≤ 10000000) : Wp (fun k => loopS (module_Copy.b25 k D) k ((0 : Int), ([] : List ACustom))) (· = D) := by
 refine (build_wp (g := fun t : ACustom => t) (l0 := D) (fun x a e hx ha he hm => ?_) (fun a => ?_)).mono (fun r hr => by rw [hr]; simp)
 ·simp only [module_Copy.b25]
  refine .pos (by omega) (.bind (.idx (by omega) (by omega)) (fun y hy => ?_))
  rw [Int.toNat_natCast, he] at hy; cases hy
  have := h _ hm
  exact .bind (tickR (by omega) (by omega)) (fun _ _ => .pos (room_small (by omega) (by omega)) (.one (by rw [iadd64 (by omega) (by omega)])))
 ·simp only [module_Copy.b25]
  exact .neg (by omega) (.one rfl)
theorem ccode_wp {f : AFunc} (hc : f.Code.length ≤ 1000000) (h : ∀ i ∈ f.Code, i.L.length * 8 ≤ 140737488355328) : Wp (fun k => loopS (module_Copy.b12 k f) k ((0 : Int), f.Code)) (· = f.Code) := by
 refine (mapset_wp (g := fun i : AInst => i) (l0 := f.Code) (fun x c e hx hl he hm => ?_) (fun c => ?_)).mono (fun r hr => by rw [hr]; simp)
 ·simp only [module_Copy.b12]
  have hx' : (x : Int) < (f.Code.length : Int) := by omega
  have hix : (0 : Int) ≤ (x : Int) ∧ (x : Int) < (c.length : Int) := ⟨by omega, by omega⟩
  have hg : Wp (fun _ => c[(x : Int).toNat]?) (· = e) := ⟨e, rfl, 0, fun _ _ => by rw [Int.toNat_natCast]; exact he⟩
  have := h e hm
  refine .pos hx' (.pos hix (.bind hg (fun e1 h1 => .bind (tickR (by rw [h1]; omega) (by rw [h1]; omega)) (fun _ _ => .pos hix (.bind hg (fun e2 h2 => .pos (by omega) (.pos (by omega) (.one ?_))))))))
  subst h1; subst h2
  rw [iadd64 (by omega) (by omega), Int.toNat_natCast]
 ·simp only [module_Copy.b12]
  exact .neg (by omega) (.one rfl)
end Go.R3K

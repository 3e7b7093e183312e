import Derived.Test.YtfjpaakonepafaaGLeaveG
set_option linter.all false
namespace Go.R3K
open Go.Proofs Go.Ev Mo
set_option maxRecDepth 100000
theorem leaveI_L {b d : Int} (i : AInst) : (leaveI b d i).1.L.length = i.L.length := by
 unfold leaveI
 split
 ·rfl
 ·split
  ·rfl
  ·split
   ·rfl
   ·split
    ·simp
    ·rfl
theorem leaveL_L {b : Int} {N : Nat} : ∀ (d : Int) (l : List AInst), (∀ i ∈ l, i.L.length ≤ N) → ∀ i ∈ leaveL b d l, i.L.length ≤ N
 | _, [], _, i, hi => by cases hi
 | d, x :: r, h, i, hi => by
  simp only [leaveL, List.mem_cons] at hi
  rcases hi with rfl | hi
  ·rw [leaveI_L]; exact h x (by simp)
  ·exact leaveL_L _ r (fun y hy => h y (by simp [hy])) i hi
def cnt (op : Int) (l : List AInst) : Int := (l.countP fun i => decide (i.Op = op) : Nat)
theorem cnt_le (op : Int) (l : List AInst) : 0 ≤ cnt op l ∧ cnt op l ≤ l.length := ⟨by unfold cnt; omega, by unfold cnt; have := List.countP_le_length (p := fun i : AInst => decide (i.Op = op)) (l := l); omega⟩
theorem cnt_app (op : Int) (a b : List AInst) : cnt op (a ++ b) = cnt op a + cnt op b := by simp [cnt]
theorem cnt_one (op : Int) (x : AInst) : cnt op [x] = if x.Op = op then 1 else 0 := by
 unfold cnt; by_cases h : x.Op = op <;> simp [h]
theorem count1_wp {op n0 : Int} {f : AFunc} (hn : 0 ≤ n0 ∧ n0 ≤ 1000000000) (hf : f.Code.length ≤ 1000000) : Wp (fun k => loopS (law16_same.b17 k op f) k (n0, (0 : Int))) (· = n0 + cnt op f.Code) := by
 refine .loop (fun (n : Nat) (v : Int × Int) => ∃ a r, f.Code = a ++ r ∧ v = (n0 + cnt op a, (a.length : Int)) ∧ r.length = n) (fun n v hv => ?_) (n := f.Code.length) ⟨[], f.Code, rfl, by simp [cnt], rfl⟩
 obtain ⟨a, r, h1, rfl, h3⟩ := hv
 have hlen : f.Code.length = a.length + r.length := by rw [h1, List.length_append]
 have hc := cnt_le op a
 simp only [law16_same.b17]
 cases r with
 | nil =>
  refine .neg (by simp only [List.length_nil] at hlen; omega) (.right ?_)
  rw [h1, List.append_nil]
 | cons i r =>
  simp only [List.length_cons] at hlen h3
  refine .pos (by omega) (.seg (Q := fun z => z = n0 + cnt op (a ++ [i])) ?_ (fun z hz => .left ⟨r.length, by omega, a ++ [i], r, by rw [h1]; simp, ?_, rfl⟩))
  ·refine .bind (Q := fun y => y = i) ⟨i, rfl, 0, fun _ _ => by rw [at?_nat, h1]; exact get_mid a i r⟩ (fun y hy => ?_)
   subst hy
   rw [cnt_app, cnt_one]
   refine .ite (fun h => .left ?_) (fun h => .left ?_)
   ·rw [if_pos h, iadd64 (by omega) (by omega)]; omega
   ·rw [if_neg h]; omega
  ·rw [hz, iadd64 (by omega) (by omega)]; simp
def cntM (op : Int) : List AFunc → Int
 | [] => 0
 | f :: r => cnt op f.Code + cntM op r
theorem cntM_app (op : Int) : ∀ a b : List AFunc, cntM op (a ++ b) = cntM op a + cntM op b
 | [], b => by simp [cntM]
 | f :: r, b => by simp only [List.cons_append, cntM, cntM_app op r b]; omega
theorem cntM_le (op : Int) : ∀ {a : List AFunc}, (∀ f ∈ a, f.Code.length ≤ 1000000) → 0 ≤ cntM op a ∧ cntM op a ≤ (a.length : Int) * 1000000
 | [], _ => by simp [cntM]
 | f :: r, h => by
  have h1 := cntM_le op (a := r) (fun y hy => h y (by simp [hy]))
  have h2 := cnt_le op f.Code
  have h3 := h f (by simp)
  simp only [cntM, List.length_cons]
  omega
theorem get_midF (a : List AFunc) (x : AFunc) (r : List AFunc) : (a ++ x :: r)[a.length]? = some x := by simp
theorem countM_wp {op : Int} {m : AModule} (hF : m.Funcs.length ≤ 4) (hf : ∀ f ∈ m.Funcs, f.Code.length ≤ 1000000) : Wp (fun k => loopS (law16_same.b14 k m op) k ((0 : Int), (0 : Int))) (· = cntM op m.Funcs) := by
 refine .loop (fun (n : Nat) (v : Int × Int) => ∃ a r, m.Funcs = a ++ r ∧ v = (cntM op a, (a.length : Int)) ∧ r.length = n) (fun n v hv => ?_) (n := m.Funcs.length) ⟨[], m.Funcs, rfl, by simp [cntM], rfl⟩
 obtain ⟨a, r, h1, rfl, h3⟩ := hv
 have hlen : m.Funcs.length = a.length + r.length := by rw [h1, List.length_append]
 have hc := cntM_le op (a := a) (fun f h => hf f (by rw [h1]; simp [h]))
 simp only [law16_same.b14]
 cases r with
 | nil =>
  refine .neg (by simp only [List.length_nil] at hlen; omega) (.right ?_)
  rw [h1, List.append_nil]
 | cons i r =>
  simp only [List.length_cons] at hlen h3
  refine .pos (by omega) (.bind (Q := fun y => y = i) ⟨i, rfl, 0, fun _ _ => by rw [at?_nat, h1]; exact get_midF a i r⟩ (fun y hy => ?_))
  subst hy
  refine .bind (count1_wp (by omega) (hf y (by rw [h1]; simp))) (fun z hz => .left ⟨r.length, by omega, a ++ [y], r, by rw [h1]; simp, ?_, rfl⟩)
  rw [hz, iadd64 (by omega) (by omega), cntM_app]
  simp [cntM]
theorem uses_wp {op : Int} {m : AModule} (hF : m.Funcs.length ≤ 4) (hf : ∀ f ∈ m.Funcs, f.Code.length ≤ 1000000) : Wp (fun k => draft_Uses.f k m op) (· = cntM op m.Funcs) := by
 refine .succ ?_
 simp only [draft_Uses.f]
 refine .bind (Q := (· = cntM op m.Funcs)) ?_ (fun r hr => .one hr)
 exact countM_wp hF hf
def isOf (g : Bool) : List Int := if g then [35, 36] else [16, 18]
def kindOf (g : Bool) : Int := if g then 3 else 0
theorem shCode_wp {g : Bool} {l b : Int} {f : AFunc} (hb : -1000000 ≤ b ∧ b ≤ 1000000) (hc : f.Code.length ≤ 1000000) (hA : ∀ i ∈ f.Code, I64 i.A) :
  Wp (fun k => loopS (law16_shifted.b9 k l b g f) k ((0 : Int), f.Code)) (· = f.Code.map (mvI (isOf g) l b)) := by
 refine mapset_wp (fun x c e hx hc he hm => ?_) (fun c => ?_)
 ·simp only [law16_shifted.b9]
  have hx' : (x : Int) < (f.Code.length : Int) := by omega
  have hix : (0 : Int) ≤ (x : Int) ∧ (x : Int) < (c.length : Int) := ⟨by omega, by omega⟩
  have hg : Wp (fun _ => c[(x : Int).toNat]?) (· = e) := ⟨e, rfl, 0, fun _ _ => by rw [Int.toNat_natCast]; exact he⟩
  refine .pos hx' (.seg (Q := fun c' => c' = c.set x (mvI (isOf g) l b e)) (.pos hix (.bind hg (fun e1 h1 => ?_))) (fun c' h => ?_))
  ·subst h1
   refine .seg (Q := fun q => q = decide (e1.Op ∈ isOf g)) ?_ (fun q hq => ?_)
   ·cases g with
    | false =>
     refine .pos rfl (.ite (fun h => .left ?_) (fun h => .ite (fun h' => .left ?_) (fun h' => .neg (by simp) (.left ?_))))
     ·simp [isOf, h]
     ·simp [isOf, h']
     ·simp [isOf, h, h']
    | true =>
     refine .neg (by simp) (.pos rfl (.ite (fun h => .left ?_) (fun h => .left ?_)))
     ·simp [isOf, h]
     ·simp [isOf, h]
   ·subst hq
    refine .ite (fun h => ?_) (fun h => ?_)
    ·refine .pos hix (.bind hg (fun e2 h2 => .bind (movedR_wp (n := e2.A) (by rw [h2]; exact hA _ hm) hb) (fun z hz => .pos hix (.bind hg (fun e3 h3 => .left ?_)))))
     subst h2; subst h3; subst hz
     rw [Int.toNat_natCast]
     unfold mvI
     rw [if_pos (of_decide_eq_true h)]
    ·refine .left ?_
     show c = _
     unfold mvI
     rw [if_neg (fun q' => h (decide_eq_true q')), setSame he]
  ·subst h
   exact .one (by rw [iadd64 (by omega) (by omega)])
 ·simp only [law16_shifted.b9]
  exact .neg (by omega) (.one rfl)
theorem shFuncs_wp {g : Bool} {l b : Int} {m : AModule} (h : Sz m) (hb : -1000000 ≤ b ∧ b ≤ 1000000) :
  Wp (fun k => loopS (law16_shifted.b4 k m l b g) k ((0 : Int), ([] : List AFunc))) (· = m.Funcs.map (mvF (isOf g) l b)) := by
 obtain ⟨-, f1, f2, f3⟩ := h
 refine build_wp (fun x a e hx ha he hm => ?_) (fun a => ?_)
 ·simp only [law16_shifted.b4]
  refine .pos (by omega) (.bind (.idx (by omega) (by omega)) (fun y hy => ?_))
  rw [Int.toNat_natCast, he] at hy; cases hy
  obtain ⟨q1, q2, q3⟩ := f3 e hm
  refine .pos (room_small (by omega) (by omega)) (.bind (shCode_wp hb q1 (fun i hi => (q3 i hi).2)) (fun r hr => ?_))
  subst hr
  exact .pos (room_small (by omega) (by omega)) (.one (by rw [iadd64 (by omega) (by omega)]; rfl))
 ·simp only [law16_shifted.b4]
  exact .neg (by omega) (.one rfl)
theorem shExports_wp {g : Bool} {l b : Int} {m : AModule} (h : Sz m) (hb : -1000000 ≤ b ∧ b ≤ 1000000) :
  Wp (fun k => loopS (law16_shifted.b19 k m l b g) k ((0 : Int), ([] : List AExport))) (· = m.Exports.map (mvE (kindOf g) l b)) := by
 obtain ⟨⟨-, -, -, -, ⟨e1, e2⟩, -, -⟩, -, -, -⟩ := h
 refine build_wp (fun x a e hx ha he hm => ?_) (fun a => ?_)
 ·simp only [law16_shifted.b19]
  refine .pos (by omega) (.bind (.idx (by omega) (by omega)) (fun y hy => ?_))
  rw [Int.toNat_natCast, he] at hy; cases hy
  have hI := e2 e hm
  refine .seg (Q := fun z => z = if e.Kind = kindOf g then fromZ e.Index l b else e.Index) ?_ (fun z hz => ?_)
  ·cases g with
   | false =>
    refine .pos rfl (.ite (fun h => .bind (movedR_wp hI hb) (fun r hr => .left ?_)) (fun h => .neg (by simp) (.left ?_)))
    ·rw [if_pos (show e.Kind = kindOf false from h)]; exact hr
    ·rw [if_neg (show ¬ e.Kind = kindOf false from h)]
   | true =>
    refine .neg (by simp) (.pos rfl (.ite (fun h => .bind (movedR_wp hI hb) (fun r hr => .left ?_)) (fun h => .left ?_)))
    ·rw [if_pos (show e.Kind = kindOf true from h)]; exact hr
    ·rw [if_neg (show ¬ e.Kind = kindOf true from h)]
  ·subst hz
   refine .pos (room_small (by omega) (by omega)) (.one ?_)
   rw [iadd64 (by omega) (by omega)]
   unfold mvE
   by_cases c : e.Kind = kindOf g
   ·rw [if_pos c, if_pos c]
   ·rw [if_neg c, if_neg c]
 ·simp only [law16_shifted.b19]
  exact .neg (by omega) (.one rfl)
theorem shifted_wp {g : Bool} {l b : Int} {m : AModule} (h : Sz m) (hb : -1000000 ≤ b ∧ b ≤ 1000000) :
  Wp (fun k => law16_shifted.f k m l b g) (· = (m.Types, m.Imports, m.Mems, m.Globals, m.Datas, m.Customs, m.Funcs.map (mvF (isOf g) l b), m.Exports.map (mvE (kindOf g) l b))) := by
 refine .succ ?_
 simp only [law16_shifted.f]
 refine .bind (shFuncs_wp h hb) (fun r hr => .bind (shExports_wp h hb) (fun r' hr' => .one ?_))
 rw [hr, hr']
theorem same_wp {m : AModule} (h : Sz m) (hl : ∀ f ∈ m.Funcs, ∀ i ∈ f.Code, Lv i) {l b : Int} (hb : -1000000 ≤ b ∧ b ≤ 1000000) : Wp (fun k => law16_same.f k m l b) (· = true) := by
 have hfit : Fit (mvM 0 [16, 18] l b m) := sz_fit (mvM_sz h)
 have hfit' : Fit (mvM 3 [35, 36] l b m) := sz_fit (mvM_sz h)
 obtain ⟨f1, f2, f3⟩ := h.f
 refine .succ ?_
 simp only [law16_same.f]
 refine .alt (Q := fun _ => True) (Q2 := fun _ => False) ?_ (fun _ _ => .alt (Q := fun _ => True) (Q2 := fun _ => False) ?_ (fun _ _ => ?_) (fun _ ho => ho.elim)) (fun _ ho => ho.elim)
 ·refine .loop (fun (n : Nat) (v : Int) => 0 ≤ v ∧ v + (n : Int) = m.Funcs.length) (fun n v hv => ?_) (n := m.Funcs.length) ⟨by simp, by simp⟩
  simp only [law16_same.b2]
  refine .ite (fun hi => .seg (Q := fun _ => True) ?_ (fun _ _ => .left ⟨n - 1, by omega, ?_⟩)) (fun _ => .right (show Either (fun _ => True) (fun _ => False) (.inl ()) from trivial))
  ·refine .bind (.idx hv.1 hi) (fun f hf => ?_)
   have hm := List.mem_of_getElem? hf
   have c1 := (f3 f hm).1
   have c2 := hl f hm
   have lens : ∀ i ∈ f.Code, i.L.length ≤ 4000000000000000000 := fun i hi => by have := (c2 i hi).n; omega
   refine .bind (leaveG_wp hb (by omega) c2) (fun a ha => .bind (leaveR_wp hb c1 c2) (fun a' ha' => ?_))
   subst ha; subst ha'
   refine .bind (insts6_wp _ _ (by rw [leaveL_len]; omega) (leaveL_L _ _ lens)) (fun r hr => .neg (by rw [hr.2 (alike_self fun _ _ => ⟨rfl, rfl, rfl, rfl, rfl⟩)]; simp) ?_)
   refine .ite (fun h3 => ?_) (fun _ => .left trivial)
   have c1' : (f.Code.drop 2).length ≤ 1000000 := by rw [List.length_drop]; omega
   have c2' : ∀ i ∈ f.Code.drop 2, Lv i := fun i hi => c2 i (List.mem_of_mem_drop hi)
   refine .pos ⟨by omega, by omega⟩ (.pos ⟨by omega, by omega⟩ (.bind (leaveG_wp hb (by omega) c2') (fun a ha => .bind (leaveR_wp hb c1' c2') (fun a' ha' => ?_))))
   subst ha; subst ha'
   refine .bind (insts6_wp _ _ (by rw [leaveL_len]; omega) (leaveL_L _ _ fun i hi => lens i (List.mem_of_mem_drop hi))) (fun r hr => .neg (by rw [hr.2 (alike_self fun _ _ => ⟨rfl, rfl, rfl, rfl, rfl⟩)]; simp) (.left trivial))
  ·rw [iadd64 (by omega) (by omega)]
   exact ⟨by omega, by omega⟩
 ·refine .loop (fun (n : Nat) (v : Int) => 0 ≤ v ∧ v + (n : Int) = 5) (fun n v hv => ?_) (n := 5) ⟨by simp, by simp⟩
  simp only [law16_same.b10]
  refine .ite (fun hi => ?_) (fun _ => .right (show Either (fun _ => True) (fun _ => False) (.inl ()) from trivial))
  refine .pos ⟨hv.1, hi⟩ (.bind (.get (by simp only [List.length_cons, List.length_nil]; omega)) (fun op hop => ?_))
  refine .bind (countM_wp f2 (fun f hf => (f3 f hf).1)) (fun r hr => .bind (uses_wp f2 (fun f hf => (f3 f hf).1)) (fun r' hr' => .pos (by rw [hr, hr']) (.left ⟨n - 1, by omega, ?_⟩)))
  rw [iadd64 (by omega) (by omega)]
  exact ⟨by omega, by omega⟩
 ·refine .bind (calls_wp h hb) (fun r hr => .bind (shifted_wp h hb) (fun r' hr' => ?_))
  subst hr; subst hr'
  dsimp only
  refine .bind (rsame_wp _ _ hfit) (fun r hr => .pos (hr.2 (alikeM_self _)) ?_)
  refine .bind (globals_wp h hb) (fun r hr => .bind (shifted_wp h hb) (fun r' hr' => ?_))
  subst hr; subst hr'
  dsimp only
  exact .bind (rsame_wp _ _ hfit') (fun r hr => .one (hr.2 (alikeM_self _)))
end Go.R3K

import Derived.Test.YtganajogkdinaaaGreatGFormK
import Derived.Test.YtganajogkdinaaaGreatGKd
import Derived.KernelRfl
set_option linter.all false
namespace Go.R4
open Go.Proofs Go.Ev
set_option maxRecDepth 100000
structure Siz (m : AModule) : Prop where
 t : m.Types.length ≤ 2000 ∧ ∀ t ∈ m.Types, t.Params.length ≤ 1000 ∧ t.Results.length ≤ 1000
 i : m.Imports.length ≤ 2000
 f : m.Funcs.length ≤ 2000 ∧ ∀ f ∈ m.Funcs, f.Code.length ≤ 100000 ∧ f.Locals.length ≤ 2000 ∧ ∀ i ∈ f.Code, i.L.length ≤ 1000
 me : m.Mems.length ≤ 2000
 g : m.Globals.length ≤ 2000
 e : m.Exports.length ≤ 2000
 d : m.Datas.length ≤ 2000 ∧ ∀ x ∈ m.Datas, x.Bytes.length ≤ 2000000
 c : m.Customs.length ≤ 2000 ∧ ∀ x ∈ m.Customs, x.Bytes.length ≤ 2000000
theorem set_same {α : Type} {l : List α} {i : Nat} {e : α} (h : l[i]? = some e) : l.set i e = l := by
 obtain ⟨hi, rfl⟩ := List.getElem?_eq_some_iff.1 h; exact List.set_getElem_self hi
theorem take_next {α : Type} {l : List α} {x : Int} (h0 : 0 ≤ x) {e : α} (he : l[x.toNat]? = some e) : l.take x.toNat ++ [e] = l.take (x + 1).toNat := by
 rw [show (x + 1).toNat = x.toNat + 1 from by omega, List.take_add_one, he]; rfl
theorem fit_siz {m : AModule} (h : Siz m) : Fit m := by
 obtain ⟨⟨t, tx⟩, i, ⟨f, fx⟩, me, g, e, ⟨d, dx⟩, ⟨c, cx⟩⟩ := h
 refine ⟨by omega, by omega, by omega, by omega, by omega, by omega, by omega, by omega, fun x hx => ?_, fun x hx => ⟨?_, ?_, fun y hy => ?_⟩⟩
 ·have := tx x hx; exact ⟨by omega, by omega⟩
 ·have := fx x hx; omega
 ·have := fx x hx; omega
 ·have := (fx x hx).2.2 y hy; omega
theorem copy_wp {m : AModule} (h : Siz m) : Wp (fun k => module_Copy.f k m) (· = (m.Imports, m.Mems, m.Globals, m.Exports, m.Types, m.Funcs, m.Datas, m.Customs)) := by
 have hb := bN
 obtain ⟨⟨t, tx⟩, i, ⟨f, fs⟩, me, g, e, ⟨d, dx⟩, ⟨c, cx⟩⟩ := h
 refine .succ ?_
 simp only [module_Copy.f]
 refine .bind (tick_wp (room_small (by omega) (by omega))) (fun _ _ => .bind (tick_wp (room_small (by omega) (by omega))) (fun _ _ => .bind (tick_wp (room_small (by omega) (by omega))) (fun _ _ => .bind (tick_wp (room_small (by omega) (by omega))) (fun _ _ => ?_))))
 refine .bind (Q := fun r => r = m.Types) ?_ (fun r1 hr1 => .bind (Q := fun r => r = m.Funcs) ?_ (fun r2 hr2 => .bind (Q := fun r => r = m.Datas) ?_ (fun r3 hr3 => .bind (Q := fun r => r = m.Customs) ?_ (fun r4 hr4 => .one (by rw [hr1, hr2, hr3, hr4])))))
 ·refine .loop (fun (n : Nat) (v : Int × List AType) => 0 ≤ v.1 ∧ v.1 + (n : Int) = m.Types.length ∧ v.2 = m.Types.take v.1.toNat) (fun n v hv => ?_) (n := m.Types.length) ⟨by simp, by simp, by simp⟩
  obtain ⟨x, a⟩ := v
  obtain ⟨h1, h2, h3⟩ := hv
  dsimp only at h1 h2 h3
  subst h3
  simp only [module_Copy.b3]
  refine .ite (fun hlt => .bind (.idx h1 hlt) (fun y hy => ?_)) (fun hge => .right (List.take_of_length_le (by omega)))
  have := tx y (List.mem_of_getElem? hy)
  refine .bind (own_wp (by omega) (by omega)) (fun r hr => ?_)
  subst hr
  refine .pos (room_small (by rw [List.length_take]; omega) (by rw [List.length_take]; omega)) (.left ⟨n - 1, by omega, ?_⟩)
  rw [iadd64 (by omega) (by omega)]
  exact ⟨by dsimp only; omega, by dsimp only; omega, take_next h1 hy⟩
 ·refine .loop (fun (n : Nat) (v : Int × List AFunc) => 0 ≤ v.1 ∧ v.1 + (n : Int) = m.Funcs.length ∧ v.2 = m.Funcs.take v.1.toNat) (fun n v hv => ?_) (n := m.Funcs.length) ⟨by simp, by simp, by simp⟩
  obtain ⟨x, a⟩ := v
  obtain ⟨h1, h2, h3⟩ := hv
  dsimp only at h1 h2 h3
  subst h3
  simp only [module_Copy.b8]
  refine .ite (fun hlt => .bind (.idx h1 hlt) (fun y hy => ?_)) (fun hge => .right (List.take_of_length_le (by omega)))
  have hm := List.mem_of_getElem? hy
  obtain ⟨y1, y2, yL⟩ := fs y hm
  refine .bind (tick_wp (room_small (by omega) (by omega))) (fun _ _ => .bind (Q := fun r => r = y.Code) ?_ (fun r hr => ?_))
  ·refine .loop (fun (n : Nat) (v : Int × List AInst) => 0 ≤ v.1 ∧ v.1 + (n : Int) = y.Code.length ∧ v.2 = y.Code) (fun n v hv => ?_) (n := y.Code.length) ⟨by simp, by simp, rfl⟩
   obtain ⟨z, b⟩ := v
   obtain ⟨g1, g2, g3⟩ := hv
   dsimp only at g1 g2 g3
   subst g3
   simp only [module_Copy.b12]
   refine .ite (fun hz => ?_) (fun hge => .right rfl)
   refine .pos ⟨g1, hz⟩ (.bind (.get (by omega)) (fun u hu => ?_))
   have hu' := yL u (List.mem_of_getElem? hu)
   refine .bind (tick_wp (room_small (by omega) (by omega))) (fun _ _ => .pos ⟨g1, hz⟩ (.bind (.get (by omega)) (fun w hw => ?_)))
   rw [hu] at hw; cases hw
   rw [show y.Code.set z.toNat (AInst.mk u.Op u.A u.B u.N u.L) = y.Code from set_same hu]
   refine .left ⟨n - 1, by omega, ?_⟩
   rw [iadd64 (by omega) (by omega)]
   exact ⟨by dsimp only; omega, by dsimp only; omega, rfl⟩
  ·subst hr
   refine .bind (tick_wp (room_small (by omega) (by omega))) (fun _ _ => .pos (room_small (by rw [List.length_take]; omega) (by rw [List.length_take]; omega)) (.left ⟨n - 1, by omega, ?_⟩))
   rw [iadd64 (by omega) (by omega)]
   exact ⟨by dsimp only; omega, by dsimp only; omega, take_next h1 hy⟩
 ·refine .loop (fun (n : Nat) (v : Int × List AData) => 0 ≤ v.1 ∧ v.1 + (n : Int) = m.Datas.length ∧ v.2 = m.Datas.take v.1.toNat) (fun n v hv => ?_) (n := m.Datas.length) ⟨by simp, by simp, by simp⟩
  obtain ⟨x, a⟩ := v
  obtain ⟨h1, h2, h3⟩ := hv
  dsimp only at h1 h2 h3
  subst h3
  simp only [module_Copy.b19]
  refine .ite (fun hlt => .bind (.idx h1 hlt) (fun y hy => ?_)) (fun hge => .right (List.take_of_length_le (by omega)))
  have := dx y (List.mem_of_getElem? hy)
  refine .bind (tick_wp (room_small (by omega) (by omega))) (fun _ _ => .pos (room_small (by rw [List.length_take]; omega) (by rw [List.length_take]; omega)) (.left ⟨n - 1, by omega, ?_⟩))
  rw [iadd64 (by omega) (by omega)]
  exact ⟨by dsimp only; omega, by dsimp only; omega, take_next h1 hy⟩
 ·refine .loop (fun (n : Nat) (v : Int × List ACustom) => 0 ≤ v.1 ∧ v.1 + (n : Int) = m.Customs.length ∧ v.2 = m.Customs.take v.1.toNat) (fun n v hv => ?_) (n := m.Customs.length) ⟨by simp, by simp, by simp⟩
  obtain ⟨x, a⟩ := v
  obtain ⟨h1, h2, h3⟩ := hv
  dsimp only at h1 h2 h3
  subst h3
  simp only [module_Copy.b25]
  refine .ite (fun hlt => .bind (.idx h1 hlt) (fun y hy => ?_)) (fun hge => .right (List.take_of_length_le (by omega)))
  have := cx y (List.mem_of_getElem? hy)
  refine .bind (tick_wp (room_small (by omega) (by omega))) (fun _ _ => .pos (room_small (by rw [List.length_take]; omega) (by rw [List.length_take]; omega)) (.left ⟨n - 1, by omega, ?_⟩))
  rw [iadd64 (by omega) (by omega)]
  exact ⟨by dsimp only; omega, by dsimp only; omega, take_next h1 hy⟩
theorem tyAt_len {T : List AType} (hT : ∀ t ∈ T, t.Params.length ≤ 1000 ∧ t.Results.length ≤ 1000) (t : Int) : (tyAt T t).1.Params.length ≤ 1000 ∧ (tyAt T t).1.Results.length ≤ 1000 := by
 unfold tyAt
 split
 ·split
  ·rename_i x hx; exact hT _ (List.mem_of_getElem? hx)
  ·exact ⟨by simp [noT], by simp [noT]⟩
 ·exact ⟨by simp [noT], by simp [noT]⟩
theorem sigR_len {T : List AType} {I : List AImport} {F : List AFunc} (hT : ∀ t ∈ T, t.Params.length ≤ 1000 ∧ t.Results.length ≤ 1000) (f : Int) : (sigR T I F f).1.Params.length ≤ 1000 ∧ (sigR T I F f).1.Results.length ≤ 1000 := by
 unfold sigR
 split
 ·exact tyAt_len hT _
 ·exact ⟨by simp [noT], by simp [noT]⟩
theorem blkR_len {T : List AType} (hT : ∀ t ∈ T, t.Params.length ≤ 1000 ∧ t.Results.length ≤ 1000) (a : Int) : (blkR T a).1.Params.length ≤ 1000 ∧ (blkR T a).1.Results.length ≤ 1000 := by
 unfold blkR
 repeat' split
 all_goals first | exact tyAt_len hT _ | exact ⟨by simp [noT], by simp [noT]⟩
theorem locR_len {T : List AType} {I : List AImport} {F : List AFunc} (hT : ∀ t ∈ T, t.Params.length ≤ 1000 ∧ t.Results.length ≤ 1000) (hF : ∀ g ∈ F, g.Locals.length ≤ 2000) (f : Int) : (locR T I F f).length ≤ 3000 := by
 unfold locR
 split
 ·split
  ·rename_i g hg
   have := hF g (List.mem_of_getElem? hg)
   have := (sigR_len (T := T) (I := I) (F := F) hT f).1
   rw [List.length_append]; omega
  ·simp
 ·simp
theorem same_wp {m : AModule} (h : Siz m) {a f : Int} (h1 : -9223372036854775808 ≤ f) (h2 : f ≤ 9223372036854775807) : Wp (fun k => law6_same.f k m a f) (· = true) := by
 have hb := bN
 have hfit := fit_siz h
 have hcopy := copy_wp h
 obtain ⟨⟨t, tx⟩, i, ⟨fu, fs⟩, me, g, e, ⟨d, dx⟩, ⟨c, cx⟩⟩ := h
 have hT : FineT m.Types := fun x hx => by have := tx x hx; exact ⟨by omega, by omega⟩
 have hI : m.Imports.length ≤ bigN := by omega
 have hF : m.Funcs.length ≤ bigN := by omega
 have hr : ∀ g ∈ m.Funcs, ((sigR m.Types m.Imports m.Funcs f).1.Params.length + g.Locals.length) * 8 ≤ 140737488355328 := fun g hg => by
  have := (sigR_len (I := m.Imports) (F := m.Funcs) tx f).1
  have := (fs g hg).2.1
  omega
 have b1 := blkR_len tx a
 have s1 := sigR_len (I := m.Imports) (F := m.Funcs) tx f
 have l1 := locR_len (I := m.Imports) (F := m.Funcs) tx (fun g hg => by have := (fs g hg).2.1; omega) f
 refine .succ ?_
 simp only [law6_same.f]
 refine .bind (mblock_wp hT a) (fun r hr1 => .bind (rblock_wp a) (fun r' hr2 => ?_))
 subst hr1; subst hr2
 refine .bind (msig_wp hT hI hF h1 h2) (fun r hr1 => .bind (rsig_wp hI hF h1 h2) (fun r' hr2 => ?_))
 subst hr1; subst hr2
 refine .bind (right_wp m hfit) (fun r hr1 => .bind (rright_wp m hfit) (fun r' hr2 => .pos (hr1.eq hr2) (.pos (by simp) ?_)))
 refine .bind (types6_wp _ _ ⟨by omega, by omega⟩) (fun r hr1 => .tif hr1 (fun _ => .pos (by simp) ?_) (fun q => (q ⟨rfl, rfl⟩).elim))
 refine .bind (types6_wp _ _ ⟨by omega, by omega⟩) (fun r hr1 => .tif hr1 (fun _ => ?_) (fun q => (q ⟨rfl, rfl⟩).elim))
 refine .bind (mlocals_wp hT hI hF h1 h2 hr) (fun r hr1 => .bind (rlocals_wp hI hF h1 h2 hr) (fun r' hr2 => ?_))
 obtain ⟨r1, r2⟩ := r
 subst hr2
 dsimp only at hr1 ⊢
 rw [List.drop_zero, hr1.2]
 refine .bind (bsame_wp _ _ (by omega)) (fun r hr1 => .pos (by rw [hr1]; simp) ?_)
 refine .bind hcopy (fun r hr1 => ?_)
 subst hr1
 dsimp only
 refine .bind (rsame_wp m m hfit) (fun r hr1 => .pos (hr1.2 (alikeM_self m)) ?_)
 exact .bind (msame_wp m m hfit) (fun r hr1 => .one (hr1.2 (alikeM_self m)))
def laid : Option (List AType × List AImport × List AGlobal × List AData × List AFunc × List AMem × List AExport) := law6_some.f 200
theorem laid_ok (j : Nat) : law6_some.f (j + 200) = laid := by kernel_rfl
def good : List AType × List AImport × List AGlobal × List AData × List AFunc × List AMem × List AExport → Bool := fun (T, I, G, D, F, M, E) =>
 (Nat.ble T.length 2000 && T.all fun t => Nat.ble t.Params.length 1000 && Nat.ble t.Results.length 1000) && Nat.ble I.length 2000 && (Nat.ble F.length 2000 && F.all fun f => Nat.ble f.Code.length 100000 && (Nat.ble f.Locals.length 2000 && f.Code.all fun i => Nat.ble i.L.length 1000)) &&
  Nat.ble M.length 2000 && Nat.ble G.length 2000 && Nat.ble E.length 2000 && (Nat.ble D.length 2000 && D.all fun x => Nat.ble x.Bytes.length 2000000)
theorem laid_good : laid.map good = some true := by kernel_rfl
theorem some_wp : Wp (fun k => law6_some.f k) (fun r => Siz ⟨r.1, r.2.1, r.2.2.2.2.1, r.2.2.2.2.2.1, r.2.2.1, r.2.2.2.2.2.2, r.2.2.2.1, []⟩) := by
 have g := laid_good
 cases hl : laid with
 | none => rw [hl] at g; cases g
 | some r =>
  refine ⟨r, ?_, 200, fun k hk => ?_⟩
  ·rw [hl] at g
   obtain ⟨T, I, G, D, F, M, E⟩ := r
   simp only [Option.map_some, Option.some.injEq, good, Bool.and_eq_true, List.all_eq_true, Nat.ble_eq] at g
   obtain ⟨⟨⟨⟨⟨⟨t, i⟩, f⟩, m⟩, gl⟩, e⟩, d⟩ := g
   exact ⟨t, i, f, m, gl, e, d, by simp, fun x hx => by simp at hx⟩
  ·obtain ⟨j, rfl⟩ : ∃ j, k = j + 200 := ⟨k - 200, by omega⟩
   show law6_some.f (j + 200) = some r
   rw [laid_ok, hl]
theorem rep_len {α : Type} {n k : Nat} {x : α} (h : n ≤ k) : (List.replicate n x).length ≤ k := by rw [List.length_replicate]; exact h
theorem one_len {α : Type} {x : α} : [x].length ≤ 2000 := by simp
theorem rep_all {α : Type} {n : Nat} {x : α} {P : α → Prop} (h : P x) : ∀ y ∈ List.replicate n x, P y := fun y hy => by rw [List.eq_of_mem_replicate hy]; exact h
theorem one_all {α : Type} {x : α} {P : α → Prop} (h : P x) : ∀ y ∈ [x], P y := fun y hy => by rw [List.mem_singleton.1 hy]; exact h
theorem nil_all {α : Type} {P : α → Prop} : ∀ y ∈ ([] : List α), P y := fun y hy => by cases hy
theorem round_wp {m : AModule} (h : Siz m) : Wp (fun k => loopS (law6_ModuleNumbers.b65 k m.Types m.Imports m.Funcs m.Mems m.Globals m.Exports m.Datas m.Customs) k (-6 : Int)) (Either (fun _ => True) (fun _ => False)) := by
 refine .loop (fun (n : Nat) (v : Int) => -6 ≤ v ∧ v + (n : Int) = 12) (fun n v hv => ?_) (n := 18) ⟨by omega, by omega⟩
 obtain ⟨h1, h2⟩ := hv
 simp only [law6_ModuleNumbers.b65]
 refine .ite (fun hlt => .bind (same_wp h (by omega) (by omega)) (fun r hr => .neg (by rw [hr]; simp) (.left ⟨n - 1, by omega, ?_⟩))) (fun _ => .right (show Either _ _ (.inl ()) from trivial))
 rw [iadd64 (by omega) (by omega)]
 exact ⟨by omega, by omega⟩
theorem mods_wp : Wp (fun k => loopS (law6_ModuleNumbers.b2 k) k (0 : Int)) (Either (fun _ => True) (fun _ => False)) := by
 have hb := bN
 refine .loop (fun (n : Nat) (v : Int) => 0 ≤ v ∧ v + (n : Int) = 40) (fun n v hv => ?_) (n := 40) ⟨by omega, by omega⟩
 obtain ⟨h1, h2⟩ := hv
 simp only [law6_ModuleNumbers.b2]
 refine .ite (fun hlt => ?_) (fun _ => .right (show Either _ _ (.inl ()) from trivial))
 refine .bind some_wp (fun r hr => ?_)
 obtain ⟨T, I, G, D, F, M, E⟩ := r
 dsimp only at hr ⊢
 have o := hr
 refine .seg (Q := fun v => Siz ⟨v.1, v.2.1, v.2.2.1, v.2.2.2.1, v.2.2.2.2.1, v.2.2.2.2.2.1, v.2.2.2.2.2.2.1, v.2.2.2.2.2.2.2⟩) ?_ (fun v hv => ?_)
 ·obtain ⟨o1, o2, o3, o4, o5, o6, o7, o8⟩ := o
  have tt : ∀ {l : List AType}, (l.length ≤ 2000 ∧ ∀ t ∈ l, t.Params.length ≤ 1000 ∧ t.Results.length ≤ 1000) → Siz ⟨l, I, F, M, G, E, D, []⟩ := fun h => ⟨h, o2, o3, o4, o5, o6, o7, o8⟩
  have ii : ∀ {l : List AImport}, l.length ≤ 2000 → Siz ⟨T, l, F, M, G, E, D, []⟩ := fun h => ⟨o1, h, o3, o4, o5, o6, o7, o8⟩
  have ff : ∀ {l : List AFunc}, (l.length ≤ 2000 ∧ ∀ f ∈ l, f.Code.length ≤ 100000 ∧ f.Locals.length ≤ 2000 ∧ ∀ i ∈ f.Code, i.L.length ≤ 1000) → Siz ⟨T, I, l, M, G, E, D, []⟩ := fun h => ⟨o1, o2, h, o4, o5, o6, o7, o8⟩
  have mm : ∀ {l : List AMem}, l.length ≤ 2000 → Siz ⟨T, I, F, l, G, E, D, []⟩ := fun h => ⟨o1, o2, o3, h, o5, o6, o7, o8⟩
  have gg : ∀ {l : List AGlobal}, l.length ≤ 2000 → Siz ⟨T, I, F, M, l, E, D, []⟩ := fun h => ⟨o1, o2, o3, o4, h, o6, o7, o8⟩
  have ee : ∀ {l : List AExport}, l.length ≤ 2000 → Siz ⟨T, I, F, M, G, l, D, []⟩ := fun h => ⟨o1, o2, o3, o4, o5, h, o7, o8⟩
  have dd : ∀ {l : List AData}, (l.length ≤ 2000 ∧ ∀ x ∈ l, x.Bytes.length ≤ 2000000) → Siz ⟨T, I, F, M, G, E, l, []⟩ := fun h => ⟨o1, o2, o3, o4, o5, o6, h, o8⟩
  have cc : ∀ {l : List ACustom}, (l.length ≤ 2000 ∧ ∀ x ∈ l, x.Bytes.length ≤ 2000000) → Siz ⟨T, I, F, M, G, E, D, l⟩ := fun h => ⟨o1, o2, o3, o4, o5, o6, o7, h⟩
  refine .ite (fun _ => .left (tt ⟨rep_len (by decide), rep_all ⟨by simp, by simp⟩⟩)) (fun _ => ?_)
  refine .ite (fun _ => .left (tt ⟨one_len, one_all ⟨rep_len (by decide), Nat.zero_le _⟩⟩)) (fun _ => ?_)
  refine .ite (fun _ => .left (tt ⟨one_len, one_all ⟨by simp, by simp⟩⟩)) (fun _ => ?_)
  refine .ite (fun _ => .left (ii (rep_len (by decide)))) (fun _ => ?_)
  refine .ite (fun _ => .left (ii (by simp))) (fun _ => ?_)
  refine .ite (fun _ => .left (ii (by simp))) (fun _ => ?_)
  refine .ite (fun _ => .left (ii (by simp))) (fun _ => ?_)
  refine .ite (fun _ => .left (ff ⟨one_len, one_all ⟨by simp, by simp, nil_all⟩⟩)) (fun _ => ?_)
  refine .ite (fun _ => .left (ff ⟨one_len, one_all ⟨by simp, by simp, nil_all⟩⟩)) (fun _ => ?_)
  refine .ite (fun _ => .left (ff ⟨one_len, one_all ⟨by simp, by simp, one_all (by simp)⟩⟩)) (fun _ => ?_)
  refine .ite (fun _ => .left (mm (rep_len (by decide)))) (fun _ => ?_)
  refine .ite (fun _ => .left (mm (by simp))) (fun _ => ?_)
  refine .ite (fun _ => .left (mm (by simp))) (fun _ => ?_)
  refine .ite (fun _ => .left (mm (by simp))) (fun _ => ?_)
  refine .ite (fun _ => .left (gg (by simp))) (fun _ => ?_)
  refine .ite (fun _ => .left (gg (by simp))) (fun _ => ?_)
  refine .ite (fun _ => .left (ee (by simp))) (fun _ => ?_)
  refine .ite (fun _ => .left (ee (by simp))) (fun _ => ?_)
  refine .ite (fun _ => .left (ee (by simp))) (fun _ => ?_)
  refine .ite (fun _ => .left (dd ⟨rep_len (by decide), rep_all (by simp)⟩)) (fun _ => ?_)
  refine .ite (fun _ => .left (dd ⟨one_len, one_all (by simp)⟩)) (fun _ => ?_)
  refine .ite (fun _ => .left (dd ⟨one_len, one_all (by simp)⟩)) (fun _ => ?_)
  refine .ite (fun _ => .left (dd ⟨one_len, one_all (by simp)⟩)) (fun _ => ?_)
  refine .ite (fun _ => .left (cc ⟨one_len, one_all (by simp)⟩)) (fun _ => ?_)
  refine .ite (fun _ => .left (cc ⟨rep_len (by decide), rep_all (by simp)⟩)) (fun _ => ?_)
  refine .ite (fun _ => .left (gg (rep_len (by decide)))) (fun _ => ?_)
  refine .ite (fun _ => .left (ff ⟨one_len, one_all ⟨Nat.zero_le _, rep_len (by decide), nil_all⟩⟩)) (fun _ => ?_)
  refine .ite (fun _ => .left (ff ⟨one_len, one_all ⟨rep_len (by decide), Nat.zero_le _, rep_all (Nat.zero_le _)⟩⟩)) (fun _ => ?_)
  refine .ite (fun _ => .left (dd ⟨one_len, one_all (rep_len (by decide))⟩)) (fun _ => ?_)
  exact .left ⟨o1, o2, o3, o4, o5, o6, o7, o8⟩
 ·obtain ⟨a1, a2, a3, a4, a5, a6, a7, a8⟩ := v
  dsimp only at hv ⊢
  refine .alt (round_wp hv) (fun _ _ => .left ⟨n - 1, by omega, ?_⟩) (fun _ h => h.elim)
  rw [iadd64 (by omega) (by omega)]
  exact ⟨by omega, by omega⟩
theorem insts_wp (op : Int) : Wp (fun k => loopS (law6_ModuleNumbers.b73 k op) k (0 : Int)) (Either (fun _ => True) (fun _ => False)) := by
 refine .loop (fun (n : Nat) (v : Int) => 0 ≤ v ∧ v + (n : Int) = 14) (fun n v hv => ?_) (n := 14) ⟨by omega, by omega⟩
 obtain ⟨h1, h2⟩ := hv
 simp only [law6_ModuleNumbers.b73]
 refine .ite (fun hlt => ?_) (fun _ => .right (show Either _ _ (.inl ()) from trivial))
 refine .seg (Q := fun v => v.2.2.2.length ≤ 1000) ?_ (fun v hv => ?_)
 ·refine .ite (fun _ => .left (by simp)) (fun _ => ?_)
  refine .ite (fun _ => .left (by simp)) (fun _ => ?_)
  refine .ite (fun _ => .left (by simp)) (fun _ => ?_)
  refine .ite (fun _ => .left (by simp)) (fun _ => ?_)
  refine .ite (fun _ => .left (by simp)) (fun _ => ?_)
  refine .ite (fun _ => .left (by simp)) (fun _ => ?_)
  refine .ite (fun _ => .left (by simp)) (fun _ => ?_)
  refine .ite (fun _ => .left (by simp)) (fun _ => ?_)
  refine .ite (fun _ => .left (by simp)) (fun _ => ?_)
  refine .ite (fun _ => .left (by simp)) (fun _ => ?_)
  refine .ite (fun _ => .left (by simp)) (fun _ => ?_)
  refine .ite (fun _ => .left (by simp)) (fun _ => ?_)
  refine .ite (fun _ => .left (rep_len (by decide))) (fun _ => .left (by simp))
 ·obtain ⟨a, b, c, l⟩ := v
  dsimp only at hv ⊢
  refine .bind (inst_wp _) (fun r hr => .bind (refinst_wp _ (by dsimp only; omega)) (fun r' hr' => .neg (by rw [hr.eq hr']; simp) ?_))
  refine .bind (inst_wp _) (fun r hr => .bind (refinst_wp _ (by dsimp only; omega)) (fun r' hr' => .neg (by rw [hr.eq hr']; simp) (.left ⟨n - 1, by omega, ?_⟩)))
  rw [iadd64 (by omega) (by omega)]
  exact ⟨by omega, by omega⟩
theorem ops_wp : Wp (fun k => loopS (law6_ModuleNumbers.b70 k) k (0 : Int)) (Either (fun _ => True) (fun _ => False)) := by
 refine .loop (fun (n : Nat) (v : Int) => 0 ≤ v ∧ v + (n : Int) = 256) (fun n v hv => ?_) (n := 256) ⟨by omega, by omega⟩
 obtain ⟨h1, h2⟩ := hv
 simp only [law6_ModuleNumbers.b70]
 refine .ite (fun hlt => ?_) (fun _ => .right (show Either _ _ (.inl ()) from trivial))
 refine .alt (insts_wp v) (fun _ _ => .left ⟨n - 1, by omega, ?_⟩) (fun _ h => h.elim)
 rw [iadd64 (by omega) (by omega)]
 exact ⟨by omega, by omega⟩
theorem ModuleNumbers : ∃ k, law6_ModuleNumbers.f k = some true := by
 refine Wp.fuel (.succ ?_)
 simp only [law6_ModuleNumbers.f]
 exact .alt mods_wp (fun _ _ => .alt ops_wp (fun _ _ => .bind known6_wp (fun r hr => .one hr)) (fun _ h => h.elim)) (fun _ h => h.elim)
end Go.R4

import Derived.Test.YtganajogkdinaaaGreatGTx2K
import Derived.Test.YtganajogkdinaaaGreatGInst4K
set_option linter.all false
namespace Go.R4
open Go.Proofs Go.Ev
set_option maxRecDepth 100000
theorem bytes_ext {a b : ByteArray} (h : a.data.toList = b.data.toList) : a = b := ByteArray.ext (Array.ext' h)
theorem strEq_iff (x y : ByteArray) : strEq x y = true ↔ x = y := by
 unfold strEq
 constructor
 ·intro h
  have h2 : x.toList = y.toList := by simpa using h
  rw [ByteArray.toList_eq, ByteArray.toList_eq] at h2
  exact bytes_ext h2
 ·rintro rfl; simp
theorem sEq_iff (x y : ByteArray) : sEq x y = true ↔ x = y := by
 cases x with
 | mk x => cases y with
  | mk y =>
   show ((x == y) = true) ↔ _
   simp
theorem strL_len (s : ByteArray) : (strL s).length = s.size := by simp [strL]
theorem strL_by (s : ByteArray) : Tx.By (strL s) := by
 intro y hy
 simp only [strL, List.mem_map] at hy
 obtain ⟨x, _, rfl⟩ := hy
 have := x.toNat_lt
 omega
def NameP (s : ByteArray) : Prop := s.size ≤ 64 ∧ (Tx.cnt (strL s)).isSome = true
theorem name_wp (s : ByteArray) : Wp (fun k => module_name.f k s) (Tell (NameP s)) := by
 refine .succ ?_
 simp only [module_name.f]
 refine .ite (fun h => ?_) (fun h => .one (.no fun q => by have := q.1; omega))
 refine .pos (by omega) (some_wp (opt_ge (n := 200002) (fun j => Tx.right_ok (j + 200000) (strL_by s) (by rw [strL_len]; omega) (by omega)) ?_))
 exact ⟨fun e => ⟨by omega, e⟩, fun e => e.2⟩
theorem rname_wp (s : ByteArray) : Wp (fun k => ref6_name.f k s) (Tell (NameP s)) := by
 refine .succ ?_
 simp only [ref6_name.f]
 refine .ite (fun h => ?_) (fun h => .one (.no fun q => by have := q.1; omega))
 refine .pos (by omega) (.bind (Q := fun r => r = Tx.ansV (Tx.cnt (strL s))) (opt_ge (n := 200001) (fun j => Tx.signs_ok (j + 200000) (strL_by s) (by rw [strL_len]; omega) (by omega)) rfl) (fun r hr => .one ?_))
 rw [hr, Tx.ansV_dec]
 exact ⟨fun e => ⟨by omega, e⟩, fun e => e.2⟩
theorem index31_wp (n : Int) : Wp (fun k => module_index.f k n) (Tell (0 ≤ n ∧ n ≤ 2147483647)) := by
 refine .succ ?_
 simp only [module_index.f]
 exact .ite (fun h => .one (.dec (by omega))) (fun h => .one (.no (by omega)))
theorem mget_put (h : List (ByteArray × Int)) (x y : ByteArray) (v : Int) : mget sEq (mput sEq h x v) y = if y = x then some v else mget sEq h y := by
 induction h with
 | nil =>
  simp only [mput, mget]
  by_cases e : y = x
  ·rw [if_pos e, (sEq_iff y x).2 e]; rfl
  ·rw [if_neg e, Bool.eq_false_iff.2 (fun q => e ((sEq_iff y x).1 q))]; rfl
 | cons a r ih =>
  obtain ⟨k, u⟩ := a
  simp only [mput, mget]
  cases c : sEq x k with
  | true =>
   have hx := (sEq_iff x k).1 c
   subst hx
   simp only [cond_true, mget]
   by_cases e : y = x
   ·rw [if_pos e, (sEq_iff y x).2 e]; rfl
   ·rw [if_neg e, Bool.eq_false_iff.2 (fun q => e ((sEq_iff y x).1 q))]; rfl
  | false =>
   have hx : x ≠ k := fun q => by rw [(sEq_iff x k).2 q] at c; cases c
   simp only [cond_false, mget]
   cases c2 : sEq y k with
   | true =>
    have hy := (sEq_iff y k).1 c2
    subst hy
    rw [if_neg (fun q => hx q.symm)]; rfl
   | false => simpa only [cond_false] using ih
def ExpP (l : List AExport) (j : Nat) (e : AExport) : Prop := NameP e.Name ∧ (0 ≤ e.Index ∧ e.Index ≤ 2147483647) ∧ (e.Kind = 0 ∨ e.Kind = 2 ∨ e.Kind = 3) ∧ ∀ (i : Nat) x, i < j → l[i]? = some x → x.Name ≠ e.Name
def ExpsP (l : List AExport) : Prop := ∀ (j : Nat) e, l[j]? = some e → ExpP l j e
theorem exps_no {l : List AExport} {j : Nat} {e : AExport} (he : l[j]? = some e) (h : ¬ ExpP l j e) : ¬ ExpsP l := fun q => h (q j e he)
theorem exported_wp (l : List AExport) (hl : l.length ≤ 4000000000000000000) : Wp (fun k => module_exported.f k l) (Tell (ExpsP l)) := by
 refine .succ ?_
 simp only [module_exported.f]
 refine .alt (Q := fun _ => ExpsP l) (Q2 := fun _ => ¬ ExpsP l) (.loop (fun (n : Nat) (v : Int × List (ByteArray × Int)) => 0 ≤ v.1 ∧ v.1 + (n : Int) = l.length ∧ (∀ (j : Nat) e, j < v.1.toNat → l[j]? = some e → ExpP l j e) ∧
  (∀ nm, mget sEq v.2 nm = none ∨ mget sEq v.2 nm = some 1) ∧ (∀ nm, mget sEq v.2 nm = none ↔ ∀ (j : Nat) e, j < v.1.toNat → l[j]? = some e → e.Name ≠ nm)) (fun n v hi => ?_) (n := l.length) ⟨by simp, by simp, fun j e h => by simp at h, fun _ => .inl rfl, fun nm => ⟨fun _ j e h => by simp at h, fun _ => rfl⟩⟩)
  (fun _ h => .one (.yes h)) (fun _ h => .one (.no h))
 obtain ⟨x, h⟩ := v
 obtain ⟨h1, h2, h3, h4, h5⟩ := hi
 simp only [module_exported.b3]
 dsimp only at h1 h2 h3 h4 h5
 refine .ite (fun hlt => ?_) (fun hge => .right ?_)
 rotate_left
 ·intro j e he
  have := (List.getElem?_eq_some_iff.1 he).1
  exact h3 j e (by omega) he
 refine .seg (Q := fun h' => ∃ e, l[x.toNat]? = some e ∧ ExpP l x.toNat e ∧ h' = mput sEq h e.Name 1) ?_ (fun h' hh => .left ?_)
 ·refine .bind (.idx h1 hlt) (fun e he => ?_)
  have key : ∀ {F : Nat → Option (List (ByteArray × Int) ⊕ ((Int × List (ByteArray × Int)) ⊕ (Unit ⊕ Unit)))}, True := fun {_} => trivial
  have hput : ∀ v : Int, (mget sEq (mput sEq h e.Name v) e.Name).getD 0 = v := fun v => by rw [mget_put, if_pos rfl]; rfl
  rw [hput]
  have bad : ∀ {v : Int}, v > 1 → v = iadd .i64 ((mget sEq h e.Name).getD 0) 1 → ¬ ExpsP l := by
   intro v hv hve hx
   have hp := (hx x.toNat e he).2.2.2
   rw [(h5 e.Name).2 (fun j y hj hy => hp j y hj hy)] at hve
   subst hve
   revert hv; decide
  have good : ∀ {v : Int}, ¬ v > 1 → v = iadd .i64 ((mget sEq h e.Name).getD 0) 1 → v = 1 ∧ ∀ (j : Nat) y, j < x.toNat → l[j]? = some y → y.Name ≠ e.Name := by
   intro v hv hve
   rcases h4 e.Name with hm | hm
   ·rw [hm] at hve; exact ⟨hve, (h5 e.Name).1 hm⟩
   ·rw [hm] at hve; subst hve; exact absurd (by decide) hv
  generalize hg : iadd .i64 ((mget sEq h e.Name).getD 0) 1 = v at hput ⊢
  have hnm : ¬ NameP e.Name → ¬ ExpsP l := fun q => exps_no he (fun p => q p.1)
  have hix : ¬ (0 ≤ e.Index ∧ e.Index ≤ 2147483647) → ¬ ExpsP l := fun q => exps_no he (fun p => q p.2.1)
  refine .ite (fun hk => ?_) (fun hk => .ite (fun hk2 => ?_) (fun hk2 => ?_))
  ·refine .ite (fun hv => .right (bad hv hg.symm)) (fun hv => .bind (name_wp _) (fun r hr => .nif hr (fun q => .right (hnm q)) (fun hN => .bind (index31_wp _) (fun r hr => .nif hr (fun q => .right (hix q)) (fun hI => .left ?_)))))
   obtain ⟨rfl, hd⟩ := good hv hg.symm
   exact ⟨e, he, ⟨hN, hI, .inl hk, hd⟩, rfl⟩
  ·refine .ite (fun hv => .right (bad hv hg.symm)) (fun hv => .bind (name_wp _) (fun r hr => .nif hr (fun q => .right (hnm q)) (fun hN => .bind (index31_wp _) (fun r hr => .nif hr (fun q => .right (hix q)) (fun hI => .left ?_)))))
   obtain ⟨rfl, hd⟩ := good hv hg.symm
   exact ⟨e, he, ⟨hN, hI, .inr (.inl hk2), hd⟩, rfl⟩
  ·refine .ite (fun hv => .right (bad hv hg.symm)) (fun hv => .bind (name_wp _) (fun r hr => .nif hr (fun q => .right (hnm q)) (fun hN => .ite (fun hk3 => .bind (index31_wp _) (fun r hr => .nif hr (fun q => .right (hix q)) (fun hI => .left ?_))) (fun hk3 => .right (exps_no he (fun p => by have := p.2.2.1; omega))))))
   obtain ⟨rfl, hd⟩ := good hv hg.symm
   exact ⟨e, he, ⟨hN, hI, .inr (.inr hk3), hd⟩, rfl⟩
 ·obtain ⟨e, he, hE, rfl⟩ := hh
  refine ⟨n - 1, by omega, ?_⟩
  rw [iadd64 (by omega) (by omega)]
  have ex : (x + 1).toNat = x.toNat + 1 := by omega
  refine ⟨by dsimp only; omega, by dsimp only; omega, fun j y hj hy => ?_, fun nm => ?_, fun nm => ?_⟩
  ·dsimp only at hj
   by_cases c : j < x.toNat
   ·exact h3 j y c hy
   ·have : j = x.toNat := by omega
    subst this
    rw [he] at hy; cases hy; exact hE
  ·dsimp only
   rw [mget_put]
   by_cases c : nm = e.Name
   ·rw [if_pos c]; exact .inr rfl
   ·rw [if_neg c]; exact h4 nm
  ·dsimp only
   rw [mget_put, ex]
   by_cases c : nm = e.Name
   ·rw [if_pos c]
    exact ⟨fun q => (by cases q), fun q => (q x.toNat e (by omega) he c.symm).elim⟩
   ·rw [if_neg c, h5 nm]
    constructor
    ·intro q j y hj hy
     by_cases c2 : j < x.toNat
     ·exact q j y c2 hy
     ·have : j = x.toNat := by omega
      subst this
      rw [he] at hy; cases hy; exact fun z => c z.symm
    ·exact fun q j y hj hy => q j y (by omega) hy
end Go.R4

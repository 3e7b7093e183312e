import Derived.Test.YtfjpaakonepafaaEvSim
set_option linter.all false
namespace Go.Ev
abbrev bigN : Nat := 140737488351232
def AllD : List Prop → Prop
 | [] => True
 | [p] => p
 | p :: q :: r => p ∧ AllD (q :: r)
theorem AllD_all : ∀ {ps : List Prop}, AllD ps → All ps
 | [], _ => trivial
 | [_], h => ⟨h, trivial⟩
 | _ :: q :: r, h => ⟨h.1, AllD_all (ps := q :: r) h.2⟩
instance : Decidable (AllD []) := inferInstanceAs (Decidable True)
instance {p : Prop} [d : Decidable p] : Decidable (AllD [p]) := d
instance {p q : Prop} {r : List Prop} [d : Decidable p] [e : Decidable (AllD (q :: r))] : Decidable (AllD (p :: q :: r)) := inferInstanceAs (Decidable (p ∧ AllD (q :: r)))
def Sc.ck {α : Type} (r i : Nat) (ps : List Prop) [d : Decidable (AllD ps)] (t : Sc α) : Sc α := .chk r i (AllD ps) d ps AllD_all t
instance (n b : Nat) : Decidable (roomP n b) := inferInstanceAs (Decidable (_ ∧ _))
def iadd (k : IntKind) (a b : Int) : Int := k.wrap (a + b)
def isub (k : IntKind) (a b : Int) : Int := k.wrap (a - b)
def imul (k : IntKind) (a b : Int) : Int := k.wrap (a * b)
def irem (_ : IntKind) (a b : Int) : Int := a.tmod b
def iand (k : IntKind) (a b : Int) : Int := k.wrap ((BitVec.ofInt k.bits a &&& BitVec.ofInt k.bits b).toNat)
def ishl (k : IntKind) (a b : Int) : Int := k.wrap (a * 2 ^ (min b.toNat k.bits))
def icv (k : IntKind) (n : Int) : Int := k.wrap n
def at? {β : Type} (l : List β) (n : Int) : Option β := if 0 ≤ n then l[n.toNat]? else none
theorem at?_ok {β : Type} {l : List β} {n : Int} {b : β} (h : at? l n = some b) : 0 ≤ n ∧ l[n.toNat]? = some b := by
 unfold at? at h
 split at h
 ·rename_i h0; exact ⟨h0, h⟩
 ·cases h
abbrev eI (k : IntKind) (n : Int) : List FV := [.int k n]
abbrev eB (b : Bool) : List FV := [.bool b]
def Rd.call {cf : Callees} {f : FuncId} {args : List A} {h : Heap} {β : Type} {o : Option β} {e : β → A × Heap} (pf : ∀ b, o = some b → cf f args h = some (e b)) : Rd β :=
 ⟨o, fun b => .ret (e b).1 (e b).2, fun b => [cf f args h = some (e b)], fun b hb => ⟨pf b hb, trivial⟩⟩
def Rd.bcall {P : Program} {cfg : Cfg} {prim : FuncId → Option (List A → Heap → Option (A × Heap))} {k : Nat} {f : FuncId} {args raw args' : List A} {h : Heap} {β : Type} {o : Option β} {e : β → A × Heap}
  (pf : ∀ b, o = some b → evCall P cfg prim k f args' [] = some (e b)) (hn : prim f = none) (hb : cfg.bor f = true) (hz : (frzAs h args).map Prod.fst = some raw) (hq : raw = args') (hz' : (frzAs [] args').map Prod.fst = some args') : Rd β :=
 ⟨o, fun b => .ret (e b).1 h, fun b => [evCall P cfg prim k f args h = some ((e b).1, h)], fun b hb' => ⟨borrow (h' := (e b).2) (pf b hb') hn hb hz hq hz', trivial⟩⟩
def Rd.el {β : Type} (e : β → List FV) (l : List β) (n : Int) : Rd β :=
 ⟨at? l n, fun b => .el (e b), fun b => [0 ≤ n, (l.map e)[n.toNat]? = some (e b)], fun b hb => by
  obtain ⟨h1, h2⟩ := at?_ok hb
  exact ⟨h1, by rw [List.getElem?_map, h2]; rfl, trivial⟩⟩
def Rd.ld {β : Type} (sz : Nat) (e : β → List FV) (l : List β) (j : Nat) : Rd β :=
 ⟨l[j]?, fun b => .at (.p (e b)), fun b => [Blk.at j (.pur sz (l.map e)) = some (.p (e b))], fun b hb =>
  ⟨by simp only [Blk.at]; rw [List.getElem?_map, hb]; rfl, trivial⟩⟩
def u8s (l : List Int) : List UInt8 := l.map fun n => UInt8.ofNat n.toNat
abbrev strOf (l : List Int) : ByteArray := ⟨(u8s l).toArray⟩
theorem bytesOf_map : ∀ l : List Int, bytesOf (l.map (eI .u8)) = some (u8s l)
 | [] => rfl
 | x :: l => by
  simp only [List.map_cons, eI, bytesOf, bytesOf_map l, u8s, Option.map_some]
def Rd.txt (l : List Int) : Rd Unit :=
 ⟨some (), fun _ => .txt (u8s l), fun _ => [bytesOf (l.map (eI .u8)) = some (u8s l)], fun _ _ => ⟨bytesOf_map l, trivial⟩⟩
def Rd.fit (b : Bool) (ps : List Prop) (p : Prop) (d : Decidable p) (pf : p → All ps) : Rd Unit :=
 ⟨@ite _ p d (some ()) none, fun _ => .fit b, fun _ => ps, fun _ h => by
  split at h
  ·rename_i hp; exact pf hp
  ·cases h⟩
def eS (s : ByteArray) : List FV := [.str s]
def eL {β : Type} (sz : Nat) (e : β → List FV) (l : List β) : List FV := [.sl sz (l.map e) none]
def imax (a b : Int) : Int := if b > a then b else a
def strEq (x y : ByteArray) : Bool := x.toList == y.toList
section
variable {β : Type} {e : β → List FV} {X : List (List FV)} {m : List β}
theorem mX (e : β → List FV) (m : List β) : m.map e = m.map e := rfl
theorem midX (e : β → List FV) (m : List β) (i n : Nat) : ((m.map e).drop i).take n = (List.take n (List.drop i m)).map e := by rw [List.map_take, List.map_drop]
theorem room_app (bytes n : Nat) (m : List β) (hX : X = m.map e) : roomP (n + m.length) bytes → All [roomP (n + X.length) bytes] := fun h => ⟨by rw [hX, List.length_map]; exact h, trivial⟩
theorem room_nil (bytes : Nat) (m : List β) (hX : X = m.map e) : roomP m.length bytes → All [roomP X.length bytes] := fun h => ⟨by rw [hX, List.length_map]; exact h, trivial⟩
theorem slw_appX (b sz : Nat) (l m : List β) (hX : X = m.map e) : A.c (.slw b sz (l.length + X.length)) = A.c (.slw b sz (l ++ m).length) := by rw [hX, List.length_map, List.length_append]
theorem pur_appX (sz : Nat) (e : β → List FV) (l m : List β) (hX : X = m.map e) : Blk.pur sz (l.map e ++ X) = Blk.pur sz ((l ++ m).map e) := by rw [hX, List.map_append]
theorem slw_nil (b sz : Nat) (m : List β) (hX : X = m.map e) : A.c (.slw b sz X.length) = A.c (.slw b sz m.length) := by rw [hX, List.length_map]
theorem pur_nil (sz : Nat) (m : List β) (hX : X = m.map e) : Blk.pur sz X = Blk.pur sz (m.map e) := by rw [hX]
theorem repX (e : β → List FV) (z : β) (n : Nat) : List.replicate n (e z) = (List.replicate n z).map e := by rw [List.map_replicate]
theorem room_znil (bytes : Nat) (x : Int) (z : List FV) : 0 ≤ x ∧ roomP x.toNat bytes → All ([0 ≤ x, roomP x.toNat bytes] ++ [roomP (List.replicate x.toNat z).length bytes]) :=
 fun h => ⟨h.1, h.2, by rw [List.length_replicate]; exact h.2, trivial⟩
theorem lm (e : β → List FV) (l : List β) : A.int .i64 ((l.map e).length : Nat) = A.int .i64 (l.length : Nat) := by rw [List.length_map]
theorem pur_set (sz : Nat) (e : β → List FV) (l : List β) (j : Nat) (x : β) : Blk.pur sz ((l.map e).set j (e x)) = Blk.pur sz ((l.set j x).map e) := by rw [List.map_set]
theorem setlen (l : List β) (j : Nat) (x : β) : (l.set j x).length = l.length := List.length_set
theorem cutL_pf (e : β → List FV) (l : List β) (i : Int) : 0 ≤ i ∧ i ≤ (l.length : Int) → All ([0 ≤ i] ++ [] ++ [i.toNat ≤ (l.map e).length, (l.map e).length ≤ (l.map e).length]) := fun h => ⟨h.1, by rw [List.length_map]; omega, Nat.le_refl _, trivial⟩
theorem cutL_eq (sz : Nat) (e : β → List FV) (l : List β) (i : Int) (cap : Option Nat) : A.c (.v (.sl sz (((l.map e).take (l.map e).length).drop i.toNat) cap)) = A.c (.v (.sl sz ((List.drop i.toNat l).map e) cap)) := by rw [List.map_drop, List.take_length]
end
theorem pur_cut0 {β : Type} (z : Nat) (e : β → List FV) (l : List β) (n : Nat) : Blk.pur z (((l.map e).drop 0).take n) = Blk.pur z ((l.take n).map e) := by rw [List.drop_zero, List.map_take]
theorem len_cut0 {β : Type} {n : Nat} {l : List β} (h : n ≤ l.length) : n = (l.take n).length := by rw [List.length_take]; omega
def overL {β : Type} (l : List β) (i : Nat) (m : List β) : List β := l.take i ++ (m ++ (l.drop (i + m.length)).take l.length)
theorem over_len {β : Type} {l m : List β} {i : Nat} (h : i + m.length ≤ l.length) : (overL l i m).length = l.length := by
 simp only [overL, List.length_append, List.length_take, List.length_drop]; omega
def opn {β : Type} (e : β → List FV) (l : List β) (i : Nat) (c : List C) : List (List C) := ((l.map e).map (·.map .v)).set i c
theorem opn_set {β : Type} (e : β → List FV) (l : List β) (i : Nat) (c c' : List C) : (opn e l i c).set i c' = opn e l i c' := by unfold opn; rw [List.set_set]
def Rd.atO {β : Type} (sz : Nat) (e : β → List FV) (l : List β) (i : Nat) (c : List C) (hi : i < l.length) : Rd Unit :=
 ⟨some (), fun _ => .at (.m c), fun _ => [Blk.at i (.mix sz (opn e l i c)) = some (.m c)], fun _ _ =>
  ⟨by simp only [Blk.at, opn]; rw [List.getElem?_set_self (by simpa using hi)]; rfl, trivial⟩⟩
theorem clsL_nil {h : Heap} : clsL h [] = some ([], []) := rfl
theorem clsL_v {h : Heap} {x : FV} {r : List C} {ys : List FV} {cs : List Nat} (hr : clsL h r = some (ys, cs)) : clsL h (.v x :: r) = some (x :: ys, cs) := by simp only [clsL, clsC, hr]; rfl
theorem clsL_o {h : Heap} {b sz sz' n : Nat} {els : List (List FV)} {r : List C} {ys : List FV} {cs : List Nat} (hz : sz ≠ 0) (hl : live h b = some (.pur sz' els)) (hr : clsL h r = some (ys, cs)) : clsL h (.slw b sz n :: r) = some (.sl sz els none :: ys, b :: cs) := by
 simp only [clsL, clsC, hr, hl, if_neg hz]; rfl
theorem clsL_vs {h : Heap} : ∀ l : List FV, clsL h (l.map .v) = some (l, [])
 | [] => rfl
 | _ :: l => clsL_v (clsL_vs l)
theorem clsE_vs {h : Heap} : ∀ l : List (List FV), clsE h (l.map (·.map .v)) = some (l, [])
 | [] => rfl
 | x :: l => by simp only [List.map_cons, clsE, clsL_vs x, clsE_vs l]; rfl
theorem clsE_set {h : Heap} {c : List C} {y : List FV} {bs : List Nat} (hc : clsL h c = some (y, bs)) : ∀ (l : List (List FV)) (i : Nat), i < l.length → clsE h ((l.map (·.map .v)).set i c) = some (l.set i y, bs)
 | [], i, hi => by simp at hi
 | x :: l, 0, _ => by simp only [List.map_cons, List.set_cons_zero, clsE, hc, clsE_vs l, List.append_nil]
 | x :: l, i + 1, hi => by simp only [List.map_cons, List.set_cons_succ, clsE, clsL_vs x, clsE_set hc l i (by simpa using hi), List.nil_append]
theorem clsB_open {β : Type} {h : Heap} {sz : Nat} {e : β → List FV} {l : List β} {i : Nat} {c : List C} {y : β} {bs : List Nat} (hi : i < l.length) (hc : clsL h c = some (e y, bs)) : clsB h (.mix sz (opn e l i c)) = some (.pur sz ((l.set i y).map e), bs) := by
 simp only [clsB, opn, clsE_set hc (l.map e) i (by simpa using hi), Option.map_some, List.map_set]
theorem clsE_one {h : Heap} {c : List C} {y : List FV} {bs : List Nat} (hc : clsL h c = some (y, bs)) : clsE h [c] = some ([y], bs) := by simp only [clsE, hc, List.append_nil]
theorem clsE_app {h : Heap} {cs : List (List C)} {ys : List (List FV)} {bs : List Nat} (hc : clsE h cs = some (ys, bs)) : ∀ l : List (List FV), clsE h ((l.map (·.map .v)) ++ cs) = some (l ++ ys, bs)
 | [] => hc
 | x :: l => by simp only [List.map_cons, List.cons_append, clsE, clsL_vs x, clsE_app hc l, List.nil_append]
def mapp {β : Type} (e : β → List FV) (l : List β) (cs : List (List C)) : List (List C) := ((l.map e).map (·.map .v)) ++ cs
theorem clsB_app {β : Type} {h : Heap} {sz : Nat} {e : β → List FV} {l : List β} {cs : List (List C)} {y : β} {bs : List Nat} (hc : clsE h cs = some ([e y], bs)) : clsB h (.mix sz (mapp e l cs)) = some (.pur sz ((l ++ [y]).map e), bs) := by
 simp only [clsB, mapp, clsE_app hc (l.map e), Option.map_some, List.map_append, List.map_cons, List.map_nil]
theorem app_one_len {β : Type} (l : List β) (x : β) : (l ++ [x]).length = l.length + 1 := by simp
def tick (n by_ : Nat) : Nat → Option Unit
 | 0 => none
 | _ + 1 => if roomP n by_ then some () else none
def cloneP (sz by_ : Nat) : List A → Heap → Option (A × Heap) := fun args h => match args, h with
 | [.c (.v (.sl z l _))], [] => if (z = sz ∨ z = 0) ∧ room l.length by_ = true then some (.c (.v (.sl sz l none)), []) else none
 | [.c (.slw 0 z n)], [some (.pur y l)] => if z = sz ∧ y = sz ∧ room n by_ = true then some (.c (.v (.sl sz l none)), [some (.pur y l)]) else none
 | [.c (.sl 0 z i n _)], [some (.pur y l)] => if z = sz ∧ y = sz ∧ room n by_ = true then some (.c (.v (.sl sz ((l.drop i).take n) none)), [some (.pur y l)]) else none
 | _, _ => none
def cloneO (sz by_ : Nat) : List A → Heap → Option (A × Heap) := fun args h => match args, h with
 | [.c (.v (.sl z l _))], [] => if (z = sz ∨ z = 0) ∧ room l.length by_ = true then some (.c (.slw 0 sz l.length), [some (.pur sz l)]) else none
 | [.c (.slw 0 z n)], [some (.pur y l)] => if z = sz ∧ y = sz ∧ room n by_ = true then some (.c (.slw 1 sz l.length), [some (.pur y l), some (.pur sz l)]) else none
 | [.c (.sl 0 z i n _)], [some (.pur y l)] => if z = sz ∧ y = sz ∧ room n by_ = true then some (.c (.slw 1 sz ((l.drop i).take n).length), [some (.pur y l), some (.pur sz ((l.drop i).take n))]) else none
 | _, _ => none
section
variable {P : Program} {cfg : Cfg} {prim : FuncId → Option (List A → Heap → Option (A × Heap))} {β : Type}
theorem clone_at {k f n by_ : Nat} {x : A} {h : Heap} {p : List A → Heap → Option (A × Heap)} {r : A × Heap} (hp : prim f = some p) (hx : roomP n by_ → p [x] h = some r) : ∀ b, tick n by_ k = some b → evCall P cfg prim k f [x] h = some r := by
 intro b hb
 cases k with
 | zero => cases hb
 | succ k =>
  simp only [tick] at hb
  split at hb
  ·rename_i hr
   simp only [evCall, hp, hx hr]
  ·cases hb
theorem clone_sl (k f sz by_ : Nat) (e : β → List FV) (l : List β) (hp : prim f = some (cloneP sz by_)) : ∀ b, tick l.length by_ k = some b → evCall P cfg prim k f [.c (.v (.sl sz (l.map e) none))] [] = some (.c (.v (.sl sz (l.map e) none)), []) :=
 clone_at hp (fun h => by simp [cloneP, room_of h])
theorem clone_nil (k f sz by_ : Nat) (e : β → List FV) (hp : prim f = some (cloneP sz by_)) : ∀ b, tick 0 by_ k = some b → evCall P cfg prim k f [.c (.v (.sl 0 [] (some 0)))] [] = some (.c (.v (.sl sz (([] : List β).map e) none)), []) :=
 clone_at hp (fun h => by simp [cloneP, room_of h])
theorem cloneO_sl (k f sz by_ : Nat) (e : β → List FV) (l : List β) (hp : prim f = some (cloneO sz by_)) : ∀ b, tick l.length by_ k = some b → evCall P cfg prim k f [.c (.v (.sl sz (l.map e) none))] [] = some (.c (.slw 0 sz l.length), [some (.pur sz (l.map e))]) :=
 clone_at hp (fun h => by simp [cloneO, room_of h])
theorem cloneO_own (k f sz by_ : Nat) (e : β → List FV) (l : List β) (hp : prim f = some (cloneO sz by_)) : ∀ b, tick l.length by_ k = some b → evCall P cfg prim k f [.c (.slw 0 sz l.length)] [some (.pur sz (l.map e))] = some (.c (.slw 1 sz l.length), [some (.pur sz (l.map e)), some (.pur sz (l.map e))]) :=
 clone_at hp (fun h => by simp [cloneO, room_of h])
theorem cloneO_nil (k f sz by_ : Nat) (e : β → List FV) (hp : prim f = some (cloneO sz by_)) : ∀ b, tick 0 by_ k = some b → evCall P cfg prim k f [.c (.v (.sl 0 [] (some 0)))] [] = some (.c (.slw 0 sz ([] : List β).length), [some (.pur sz (([] : List β).map e))]) :=
 clone_at hp (fun h => by simp [cloneO, room_of h])
end
end Go.Ev

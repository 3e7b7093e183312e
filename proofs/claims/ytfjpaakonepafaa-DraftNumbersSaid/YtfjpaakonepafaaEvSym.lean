import Derived.Test.YtfjpaakonepafaaEvCore
set_option linter.all false
namespace Go.Ev
def All : List Prop → Prop
 | [] => True
 | p :: r => p ∧ All r
theorem All_app {l m : List Prop} : All (l ++ m) ↔ All l ∧ All m := by
 induction l with
 | nil => simp [All]
 | cons p l ih => simp only [List.cons_append, All, ih, and_assoc]
theorem All_one {p : Prop} : All [p] ↔ p := by simp [All]
inductive It where
 | bo (b : Bool)
 | num (n : Int)
 | el (cs : List FV)
 | at (cl : CL)
 | fit (b : Bool)
 | txt (bs : List UInt8)
 | ret (r : A) (h : Heap)
 | as (a : A)
 | cut
structure Or where
 r : Nat
 i : Nat
 it : It
def inR : IntKind → Int → Prop
 | .i8, n => -128 ≤ n ∧ n ≤ 127
 | .i16, n => -32768 ≤ n ∧ n ≤ 32767
 | .i32, n => -2147483648 ≤ n ∧ n ≤ 2147483647
 | .i64, n => -9223372036854775808 ≤ n ∧ n ≤ 9223372036854775807
 | .u8, n => 0 ≤ n ∧ n ≤ 255
 | .u16, n => 0 ≤ n ∧ n ≤ 65535
 | .u32, n => 0 ≤ n ∧ n ≤ 4294967295
 | .u64, n => 0 ≤ n ∧ n ≤ 18446744073709551615
theorem wrap_inR {k : IntKind} {n : Int} (h : inR k n) : k.wrap n = n := by
 cases k <;> simp only [inR] at h <;> simp only [IntKind.wrap, IntKind.bits, IntKind.signed] <;> (simp; try omega)
def num (k : IntKind) (n : Int) : Int × List Prop := if k.signed then (n, [inR k n]) else (k.wrap n, [])
def intD (op : BinOp) (k : IntKind) (a : Int) (k' : IntKind) (b : Int) : Option (FV × List Prop) :=
 match op with
 | .shl => some (.int k (k.wrap (a * 2 ^ (min b.toNat k.bits))), [0 ≤ b])
 | .shr => some (.int k (a.fdiv (2 ^ (min b.toNat k.bits))), [0 ≤ b])
 | .quo => if k = k' then some (.int k (k.wrap (a.tdiv b)), [b ≠ 0]) else none
 | .rem => if k = k' then some (.int k (a.tmod b), [b ≠ 0]) else none
 | op => (intBin op k a k' b).map fun r => (r, [])
theorem intD_ok {op : BinOp} {k k' : IntKind} {a b : Int} {r : FV} {p : List Prop} (h : intD op k a k' b = some (r, p)) (hp : All p) : intBin op k a k' b = some r := by
 unfold intD at h
 split at h
 ·simp only [Option.some.injEq, Prod.mk.injEq] at h
  obtain ⟨rfl, rfl⟩ := h
  simp only [All_one] at hp
  simp only [intBin]
  rw [if_neg (by omega)]
 ·simp only [Option.some.injEq, Prod.mk.injEq] at h
  obtain ⟨rfl, rfl⟩ := h
  simp only [All_one] at hp
  simp only [intBin]
  rw [if_neg (by omega)]
 ·split at h
  ·rename_i hk
   simp only [Option.some.injEq, Prod.mk.injEq] at h
   obtain ⟨rfl, rfl⟩ := h
   simp only [All_one] at hp
   simp only [intBin]
   rw [if_pos hk, if_neg hp]
  ·cases h
 ·split at h
  ·rename_i hk
   simp only [Option.some.injEq, Prod.mk.injEq] at h
   obtain ⟨rfl, rfl⟩ := h
   simp only [All_one] at hp
   simp only [intBin]
   rw [if_pos hk, if_neg hp]
  ·cases h
 ·simp only [Option.map_eq_some_iff, Prod.mk.injEq] at h
  obtain ⟨r', h, rfl, _⟩ := h
  exact h
def nilD (op : BinOp) (x : C) (it : Option It) : Option (A × List Prop) := match op, it with
 | .eql, some (.fit b) => some (A.bool b, [nilSl x = some b])
 | .neq, some (.fit b) => some (A.bool (!b), [nilSl x = some b])
 | _, _ => none
def binD (P : Program) (op : BinOp) (t : TypeId) (x y : A) (it : Option It) : Option (A × List Prop) :=
 match x, y with
 | .c (.v (.int k a)), .c (.v (.int k' b)) => (intD op k a k' b).map fun (r, p) => (.c (.v r), p)
 | .c (.v (.str a)), .c (.v (.str b)) => (match op with
  | .add => some (.c (.v (.str (a ++ b))), [((a.size + b.size : Nat) : Int) ≤ 9223372036854775807])
  | op => (strBin op a b).map fun r => (.c (.v r), []))
 | .c x, .c (.v (.sl 0 [] (some 0))) => (match it, P.underlying t with
  | some (.fit b), some (.slice _) => nilD op x (some (.fit b))
  | _, _ => (binA P op t (.c x) (.c (.v (.sl 0 [] (some 0))))).map fun r => (r, []))
 | x, y => (binA P op t x y).map fun r => (r, [])
theorem binA_nil {P : Program} {op : BinOp} {t : TypeId} {x : C} : binA P op t (.c x) (.c (.v (.sl 0 [] (some 0)))) = (match op with
  | .eql => (eqN P t (.c x) (.c (.v (.sl 0 [] (some 0))))).map fun b => .c (.v (.bool b))
  | .neq => (eqN P t (.c x) (.c (.v (.sl 0 [] (some 0))))).map fun b => .c (.v (.bool !b))
  | _ => none) := by
 cases x with
 | v v => cases v <;> cases op <;> rfl
 | _ => cases op <;> rfl
theorem binD_ok {P : Program} {op : BinOp} {t : TypeId} {x y : A} {it : Option It} {r : A} {p : List Prop} (h : binD P op t x y it = some (r, p)) (hp : All p) : binA P op t x y = some r := by
 unfold binD at h
 split at h
 ·simp only [Option.map_eq_some_iff, Prod.mk.injEq] at h
  obtain ⟨⟨q, p'⟩, h, rfl, rfl⟩ := h
  simp [binA, intD_ok h hp]
 ·split at h
  ·simp only [Option.some.injEq, Prod.mk.injEq] at h
   obtain ⟨rfl, rfl⟩ := h
   simp only [All_one] at hp
   simp only [binA, strBin]
   rw [if_neg (by simp only [IntKind.max, IntKind.signed, IntKind.bits]; simp; omega)]
   rfl
  ·simp only [Option.map_eq_some_iff, Prod.mk.injEq] at h
   obtain ⟨q, h, rfl, _⟩ := h
   simp [binA, h]
 ·rename_i x
  split at h
  ·rename_i b e hu
   have key : nilSl x = some b → eqN P t (.c x) (.c (.v (.sl 0 [] (some 0)))) = some b := by
    intro hb
    cases x with
    | v v => cases v <;> simp_all [eqN, nilSl]
    | _ => simp_all [eqN, nilSl]
   rw [binA_nil]
   unfold nilD at h
   split at h
   ·rename_i heq
    simp only [Option.some.injEq, It.fit.injEq] at heq
    subst heq
    simp only [Option.some.injEq, Prod.mk.injEq] at h
    obtain ⟨rfl, rfl⟩ := h
    simp [key (All_one.1 hp)]
   ·rename_i heq
    simp only [Option.some.injEq, It.fit.injEq] at heq
    subst heq
    simp only [Option.some.injEq, Prod.mk.injEq] at h
    obtain ⟨rfl, rfl⟩ := h
    simp [key (All_one.1 hp)]
   ·cases h
  ·simp only [Option.map_eq_some_iff, Prod.mk.injEq] at h
   obtain ⟨q, h, rfl, _⟩ := h
   exact h
 ·simp only [Option.map_eq_some_iff, Prod.mk.injEq] at h
  obtain ⟨q, h, rfl, _⟩ := h
  exact h
def convD (P : Program) (src dst : TypeId) (x : A) : Option (A × List Prop) :=
 match P.underlying src, P.underlying dst, x with
 | some _, some (.int k), .c (.v (.int _ n)) => some (A.int k (k.wrap n), [])
 | _, _, _ => (convA P src dst x).map fun r => (r, [])
theorem convD_ok {P : Program} {src dst : TypeId} {x : A} {r : A} {p : List Prop} (h : convD P src dst x = some (r, p)) (hp : All p) : convA P src dst x = some r := by
 unfold convD at h
 split at h
 ·rename_i h1 h2
  simp only [Option.some.injEq, Prod.mk.injEq] at h
  obtain ⟨rfl, rfl⟩ := h
  simp [convA, h1, h2]
 ·simp only [Option.map_eq_some_iff, Prod.mk.injEq] at h
  obtain ⟨q, h, rfl, _⟩ := h
  exact h
def indexAddrD (P : Program) (t : TypeId) (x ix : A) (it : Option It) : Option (A × List Prop) :=
 match elemT P t, ix with
 | some e, .c (.v (.int _ n)) => (match szOf P e, x with
  | some sz', .c (.v (.sl sz els _)) => if sz' = sz then (match it with
   | some (.el cs) => some (.c (.v (.ref cs)), [0 ≤ n, els[n.toNat]? = some cs])
   | _ => (indexAddrA P t x ix).map fun r => (r, [])) else none
  | some sz', .c (.sl b sz i m _) => if sz' = sz then some (.c (.ptr b sz (i + n.toNat) 0), [0 ≤ n, n < (m : Int)]) else none
  | some sz', .c (.slw b sz m) => if sz' = sz then some (.c (.ptr b sz n.toNat 0), [0 ≤ n, n < (m : Int)]) else none
  | _, _ => none)
 | _, _ => none
theorem indexAddrD_ok {P : Program} {t : TypeId} {x ix : A} {it : Option It} {r : A} {p : List Prop} (h : indexAddrD P t x ix it = some (r, p)) (hp : All p) : indexAddrA P t x ix = some r := by
 unfold indexAddrD at h
 split at h
 ·rename_i e k n he
  split at h
  ·rename_i sz' sz els cap hs
   split at h
   ·rename_i hz
    split at h
    ·simp only [Option.some.injEq, Prod.mk.injEq] at h
     obtain ⟨rfl, rfl⟩ := h
     simp only [All, and_true] at hp
     simp [indexAddrA, he, hs, hz, hp.1, hp.2]
    ·simp only [Option.map_eq_some_iff, Prod.mk.injEq] at h
     obtain ⟨q, h, rfl, _⟩ := h
     exact h
   ·cases h
  ·rename_i hs
   split at h
   ·rename_i hz
    simp only [Option.some.injEq, Prod.mk.injEq] at h
    obtain ⟨rfl, rfl⟩ := h
    simp only [All, and_true] at hp
    simp [indexAddrA, he, hs, hz, hp.1, hp.2]
   ·cases h
  ·rename_i hs
   split at h
   ·rename_i hz
    simp only [Option.some.injEq, Prod.mk.injEq] at h
    obtain ⟨rfl, rfl⟩ := h
    simp only [All, and_true] at hp
    simp [indexAddrA, he, hs, hz, hp.1, hp.2]
   ·cases h
  ·cases h
 ·cases h
def indexD (P : Program) (t : TypeId) (x ix : A) (it : Option It) : Option (A × List Prop) :=
 match P.underlying t, x, ix, it with
 | some .string, .c (.v (.str s)), .c (.v (.int _ n)), some (.num v) => some (A.int .u8 v, [0 ≤ n, (s[n.toNat]?).map (fun b => (b.toNat : Int)) = some v])
 | _, _, _, _ => (indexA P t x ix).map fun r => (r, [])
theorem indexD_ok {P : Program} {t : TypeId} {x ix : A} {it : Option It} {r : A} {p : List Prop} (h : indexD P t x ix it = some (r, p)) (hp : All p) : indexA P t x ix = some r := by
 unfold indexD at h
 split at h
 ·rename_i s k n v hu
  simp only [Option.some.injEq, Prod.mk.injEq] at h
  obtain ⟨rfl, rfl⟩ := h
  simp only [All, and_true] at hp
  obtain ⟨h0, h1⟩ := hp
  obtain ⟨b, h2, rfl⟩ := Option.map_eq_some_iff.1 h1
  simp only [indexA, hu, h0, if_true, h2]
 ·simp only [Option.map_eq_some_iff, Prod.mk.injEq] at h
  obtain ⟨q, h, rfl, _⟩ := h
  exact h
def natD : A → Option (Nat × List Prop)
 | .c (.v (.int _ n)) => some (n.toNat, [0 ≤ n])
 | _ => none
theorem natD_ok {x : A} {n : Nat} {p : List Prop} (h : natD x = some (n, p)) (hp : All p) : natA x = some n := by
 unfold natD at h
 split at h
 ·simp only [Option.some.injEq, Prod.mk.injEq] at h
  obtain ⟨rfl, rfl⟩ := h
  simp [natA, All_one.1 hp]
 ·cases h
def lowD (s : List A) (lo : Option Operand) (d : Nat) : Option (Nat × List Prop) := match lo with
 | some x => natD (opd s x)
 | none => some (d, [])
def bndD (s : List A) (lo hi mx : Option Operand) (len : Nat) : Option (Nat × Nat × Option Nat × List Prop) :=
 match lowD s lo 0, lowD s hi len with
 | some (l, p), some (h, q) => (match mx with
  | none => some (l, h, none, p ++ q)
  | some x => (match hi with
   | some _ => (natD (opd s x)).map fun (m, r) => (l, h, some m, p ++ q ++ r)
   | none => none))
 | _, _ => none
theorem bndD_ok {s : List A} {lo hi mx : Option Operand} {len l h : Nat} {m : Option Nat} {p : List Prop} (hb : bndD s lo hi mx len = some (l, h, m, p)) (hp : All p) : bnd s lo hi mx len = some (l, h, m) := by
 unfold bndD at hb
 split at hb
 ·rename_i l' p' h' q' h1 h2
  have low : ∀ {o : Option Operand} {d n : Nat} {p : List Prop}, lowD s o d = some (n, p) → All p → (match o with | some x => natA (opd s x) | none => some d) = some n := by
   intro o d n p h hp
   unfold lowD at h
   cases o with
   | none => simp only [Option.some.injEq, Prod.mk.injEq] at h; simp [h.1]
   | some x => exact natD_ok h hp
  unfold bnd
  cases mx with
  | none =>
   simp only [Option.some.injEq, Prod.mk.injEq] at hb
   obtain ⟨rfl, rfl, rfl, rfl⟩ := hb
   rw [All_app] at hp
   have k1 := low h1 hp.1
   have k2 := low h2 hp.2
   cases lo <;> cases hi <;> simp_all
  | some x =>
   cases hi with
   | none => simp at hb
   | some y =>
    simp only [Option.map_eq_some_iff, Prod.mk.injEq] at hb
    obtain ⟨⟨m', r⟩, hm, rfl, rfl, rfl, rfl⟩ := hb
    rw [All_app, All_app] at hp
    have k1 := low h1 hp.1.1
    have k2 := low h2 hp.1.2
    have k3 := natD_ok hm hp.2
    cases lo <;> simp_all
 ·cases hb
def sliceD (P : Program) (t : TypeId) (s : List A) (x : A) (lo hi mx : Option Operand) : Option (A × List Prop) :=
 match P.underlying t, x with
 | some .string, .c (.v (.str b)) => (match bndD s lo hi mx b.size with
  | some (l, h, none, p) => some (.c (.v (.str (b.extract l h))), p ++ [l ≤ h, h ≤ b.size])
  | _ => none)
 | some (.slice e), .c (.v (.sl sz els cap)) => (match szOf P e, bndD s lo hi mx els.length with
  | some sz', some (l, h, m, p) => if sz' = sz ∨ sz = 0 then (match m with
   | none => some (.c (.v (.sl sz ((els.take h).drop l) (cap.map (· - l)))), p ++ [l ≤ h, h ≤ els.length])
   | some m => some (.c (.v (.sl sz ((els.take h).drop l) (some (m - l)))), p ++ [l ≤ h, h ≤ els.length, h ≤ m, m ≤ els.length, cap ≠ none ∨ 0 < els.length])) else none
  | _, _ => none)
 | some (.slice e), .c (.sl b sz i n cap) => (match szOf P e, bndD s lo hi mx n with
  | some sz', some (l, h, m, p) => if sz' = sz then (match m with
   | none => some (.c (.sl b sz (i + l) (h - l) (cap.map (· - l))), p ++ [l ≤ h, h ≤ n])
   | some m => some (.c (.sl b sz (i + l) (h - l) (some (m - l))), p ++ [l ≤ h, h ≤ n, h ≤ m, m ≤ n, cap ≠ none ∨ 0 < n])) else none
  | _, _ => none)
 | some (.slice e), .c (.slw b sz n) => (match szOf P e, bndD s lo hi mx n with
  | some sz', some (l, h, m, p) => if sz' = sz then (match m with
   | none => some (.c (.sl b sz l (h - l) none), p ++ [l ≤ h, h ≤ n])
   | some m => some (.c (.sl b sz l (h - l) (some (m - l))), p ++ [l ≤ h, h ≤ n, h ≤ m, m ≤ n, 0 < n])) else none
  | _, _ => none)
 | _, _ => none
theorem sliceD_ok {P : Program} {t : TypeId} {s : List A} {x : A} {lo hi mx : Option Operand} {r : A} {p : List Prop} (h : sliceD P t s x lo hi mx = some (r, p)) (hp : All p) : sliceA P t s x lo hi mx = some r := by
 unfold sliceD at h
 unfold sliceA
 split at h
 ·rename_i b hu
  split at h
  ·rename_i l h' q hb
   simp only [Option.some.injEq, Prod.mk.injEq] at h
   obtain ⟨rfl, rfl⟩ := h
   simp only [All_app, All, and_true] at hp
   simp only [hu, bndD_ok hb hp.1, hp.2, and_self, if_true]
  ·cases h
 ·rename_i e sz els cap hu
  split at h
  ·rename_i sz' l h' m q hs hb
   split at h
   ·rename_i hz
    split at h
    ·simp only [Option.some.injEq, Prod.mk.injEq] at h
     obtain ⟨rfl, rfl⟩ := h
     simp only [All_app, All, and_true] at hp
     simp only [hu, hs, bndD_ok hb hp.1]
     rw [if_pos ⟨hz, hp.2.1, hp.2.2⟩]
    ·simp only [Option.some.injEq, Prod.mk.injEq] at h
     obtain ⟨rfl, rfl⟩ := h
     simp only [All_app, All, and_true] at hp
     obtain ⟨p1, p2, p3, p4, p5, p6⟩ := hp
     simp only [hu, hs, bndD_ok hb p1]
     rw [if_pos ⟨hz, p2, p3⟩, if_pos ⟨p4, p5, p6⟩]
   ·cases h
  ·cases h
 ·rename_i e b sz i n cap hu
  split at h
  ·rename_i sz' l h' m q hs hb
   split at h
   ·rename_i hz
    split at h
    ·simp only [Option.some.injEq, Prod.mk.injEq] at h
     obtain ⟨rfl, rfl⟩ := h
     simp only [All_app, All, and_true] at hp
     simp only [hu, hs, bndD_ok hb hp.1]
     rw [if_pos ⟨hz, hp.2.1, hp.2.2⟩]
    ·simp only [Option.some.injEq, Prod.mk.injEq] at h
     obtain ⟨rfl, rfl⟩ := h
     simp only [All_app, All, and_true] at hp
     obtain ⟨p1, p2, p3, p4, p5, p6⟩ := hp
     simp only [hu, hs, bndD_ok hb p1]
     rw [if_pos ⟨hz, p2, p3⟩, if_pos ⟨p4, p5, p6⟩]
   ·cases h
  ·cases h
 ·rename_i e b sz n hu
  split at h
  ·rename_i sz' l h' m q hs hb
   split at h
   ·rename_i hz
    split at h
    ·simp only [Option.some.injEq, Prod.mk.injEq] at h
     obtain ⟨rfl, rfl⟩ := h
     simp only [All_app, All, and_true] at hp
     simp only [hu, hs, bndD_ok hb hp.1]
     rw [if_pos ⟨hz, hp.2.1, hp.2.2⟩]
    ·simp only [Option.some.injEq, Prod.mk.injEq] at h
     obtain ⟨rfl, rfl⟩ := h
     simp only [All_app, All, and_true] at hp
     obtain ⟨p1, p2, p3, p4, p5, p6⟩ := hp
     simp only [hu, hs, bndD_ok hb p1]
     rw [if_pos ⟨hz, p2, p3⟩, if_pos ⟨p4, p5, p6⟩]
   ·cases h
  ·cases h
 ·cases h
end Go.Ev

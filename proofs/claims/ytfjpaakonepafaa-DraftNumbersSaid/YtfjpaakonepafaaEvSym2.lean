import Derived.Test.YtfjpaakonepafaaEvSym
set_option linter.all false
namespace Go.Ev
set_option linter.unusedSimpArgs false
def roomP (n bytes : Nat) : Prop := n * bytes ≤ 140737488355328 ∧ n ≤ 140737488355328
theorem room_of {n bytes : Nat} (h : roomP n bytes) : room n bytes = true := by
 simp [room, h.1, h.2]
def loadD (h : Heap) (agg : Bool) (n : Nat) (x : A) (it : Option It) : Option (A × List Prop) :=
 match x, it with
 | .c (.ptr b _ i o), some (.at cl) => (match live h b with
  | some k => (cl.part agg o n).map fun a => (a, [k.at i = some cl])
  | none => none)
 | x, _ => (loadA h agg n x).map fun a => (a, [])
theorem loadD_ok {h : Heap} {agg : Bool} {n : Nat} {x : A} {it : Option It} {r : A} {p : List Prop} (hd : loadD h agg n x it = some (r, p)) (hp : All p) : loadA h agg n x = some r := by
 unfold loadD at hd
 split at hd
 ·rename_i b z i o cl
  split at hd
  ·rename_i k hk
   simp only [Option.map_eq_some_iff, Prod.mk.injEq] at hd
   obtain ⟨a, ha, rfl, rfl⟩ := hd
   simp only [All, and_true] at hp
   simp [loadA, hk, hp, ha]
  ·cases hd
 ·simp only [Option.map_eq_some_iff, Prod.mk.injEq] at hd
  obtain ⟨a, ha, rfl, _⟩ := hd
  exact ha
def storeD (h : Heap) (n : Nat) (x v : A) (it : Option It) : Option (Heap × List Prop) :=
 match x, it, cellsA v with
 | .c (.ptr b _ i o), some (.at old), some cl => if cl.len = n then (match live h b with
  | some k => if o + n ≤ old.len then some (h.set b (some (k.setAt i (old.put o cl))), [k.at i = some old]) else none
  | none => none) else none
 | x, _, _ => (storeA h n x v).map fun h' => (h', [])
theorem storeD_ok {h h' : Heap} {n : Nat} {x v : A} {it : Option It} {p : List Prop} (hd : storeD h n x v it = some (h', p)) (hp : All p) : storeA h n x v = some h' := by
 unfold storeD at hd
 split at hd
 ·rename_i b z i o old cl hc
  split at hd
  ·rename_i hl
   split at hd
   ·rename_i k hk
    split at hd
    ·rename_i ho
     simp only [Option.some.injEq, Prod.mk.injEq] at hd
     obtain ⟨rfl, rfl⟩ := hd
     simp only [All, and_true] at hp
     simp [storeA, hc, hl, hk, hp, ho]
    ·cases hd
   ·cases hd
  ·cases hd
 ·simp only [Option.map_eq_some_iff, Prod.mk.injEq] at hd
  obtain ⟨a, ha, rfl, _⟩ := hd
  exact ha
def appendD (h : Heap) (sz bytes : Nat) (x : A) (new : EL) (it : Option It) : Option (A × Heap × List Prop) :=
 match x with
 | .c (.v (.sl z els (some 0))) => if (z = sz ∨ z = 0) then (match els with
  | [] => some (.c (.slw h.length sz new.len), h ++ [some (new.blk sz)], [roomP new.len bytes])
  | _ :: _ => none) else none
 | .c (.v (.sl z els (some (k + 1)))) => if z = sz then
   some (.c (.slw h.length sz (els.length + new.len)), h ++ [some ((EL.app (.p els) new).blk sz)], [k + 1 < els.length + new.len, roomP (els.length + new.len) bytes]) else none
 | .c (.slw b z n) => if z = sz then (match live h b with
  | some k => some (.c (.slw h.length sz (n + new.len)), h.set b none ++ [some ((k.el.app new).blk sz)], [roomP (n + new.len) bytes])
  | none => none) else none
 | .c (.sl b z i n (some c)) => if z = sz then (match live h b, it with
  | some k, some (.fit true) => some (.c (.sl b sz i (n + new.len) (some c)), h.set b (some ((k.el.over (i + n) new).blk sz)), [n + new.len ≤ c, i + n + new.len ≤ k.len, ¬ (n = 0 ∧ c = 0)])
  | some k, some (.fit false) => some (.c (.slw h.length sz (n + new.len)), h ++ [some (((k.el.mid i n).app new).blk sz)], [¬ n + new.len ≤ c, roomP (n + new.len) bytes, ¬ (n = 0 ∧ c = 0)])
  | some k, none => (match n, c with
   | 0, 0 => some (.c (.slw h.length sz new.len), h ++ [some (new.blk sz)], [roomP new.len bytes])
   | _, _ => none)
  | _, _ => none) else none
 | .c (.sl b z i n none) => if z = sz then (match live h b, it with
  | some k, some (.fit true) => some (.c (.sl b sz i (n + new.len) none), h.set b (some ((k.el.over (i + n) new).blk sz)), [i + n + new.len ≤ k.len])
  | some k, some (.fit false) => some (.c (.slw h.length sz (n + new.len)), h.set b none ++ [some (((k.el.mid i n).app new).blk sz)], [¬ i + n + new.len ≤ k.len, roomP (n + new.len) bytes])
  | _, _ => none) else none
 | _ => none
theorem appendD_ok {h h' : Heap} {sz bytes : Nat} {x r : A} {new : EL} {it : Option It} {p : List Prop} (hd : appendD h sz bytes x new it = some (r, h', p)) (hp : All p) : appendA h sz bytes x new = some (r, h') := by
 unfold appendD at hd
 split at hd
 ·rename_i z els
  split at hd
  ·rename_i hz
   split at hd
   ·simp only [Option.some.injEq, Prod.mk.injEq] at hd
    obtain ⟨rfl, rfl, rfl⟩ := hd
    simp only [All, and_true] at hp
    simp [appendA, hz, room_of hp]
   ·cases hd
  ·cases hd
 ·rename_i z els k
  split at hd
  ·rename_i hz
   simp only [Option.some.injEq, Prod.mk.injEq] at hd
   obtain ⟨rfl, rfl, rfl⟩ := hd
   simp only [All, and_true] at hp
   simp [appendA, hz, room_of hp.2, hp.1]
  ·cases hd
 ·rename_i b z n
  split at hd
  ·rename_i hz
   split at hd
   ·rename_i k hk
    simp only [Option.some.injEq, Prod.mk.injEq] at hd
    obtain ⟨rfl, rfl, rfl⟩ := hd
    simp only [All, and_true] at hp
    simp [appendA, hz, hk, room_of hp]
   ·cases hd
  ·cases hd
 ·rename_i b z i n c
  split at hd
  ·rename_i hz
   split at hd
   ·rename_i k hk
    simp only [Option.some.injEq, Prod.mk.injEq] at hd
    obtain ⟨rfl, rfl, rfl⟩ := hd
    simp only [All, and_true] at hp
    simp only [appendA, hz, hk, if_true]
    rw [if_neg hp.2.2, if_pos hp.1, if_pos hp.2.1]
   ·rename_i k hk
    simp only [Option.some.injEq, Prod.mk.injEq] at hd
    obtain ⟨rfl, rfl, rfl⟩ := hd
    simp only [All, and_true] at hp
    simp only [appendA, hz, hk, if_true]
    rw [if_neg hp.2.2, if_neg hp.1, if_pos (room_of hp.2.1)]
   ·rename_i k hk
    split at hd
    ·simp only [Option.some.injEq, Prod.mk.injEq] at hd
     obtain ⟨rfl, rfl, rfl⟩ := hd
     simp only [All, and_true] at hp
     simp only [appendA, hz, hk, if_true]
     simp [room_of hp]
    ·cases hd
   ·cases hd
  ·cases hd
 ·rename_i b z i n
  split at hd
  ·rename_i hz
   split at hd
   ·rename_i k hk
    simp only [Option.some.injEq, Prod.mk.injEq] at hd
    obtain ⟨rfl, rfl, rfl⟩ := hd
    simp only [All, and_true] at hp
    simp [appendA, hz, hk, hp]
   ·rename_i k hk
    simp only [Option.some.injEq, Prod.mk.injEq] at hd
    obtain ⟨rfl, rfl, rfl⟩ := hd
    simp only [All, and_true] at hp
    simp only [appendA, hz, hk, if_true]
    rw [if_neg hp.1, if_pos (room_of hp.2)]
   ·cases hd
  ·cases hd
 ·cases hd
def appNewD (P : Program) (s : List A) (h : Heap) (u e : TypeId) (sz bytes : Nat) (y : Operand) : Option (EL × List Prop) := match P.underlying u with
 | some (.int _) => (match opd s y, zeroF P e with
  | .c (.v (.int _ m)), some z => some (.p (List.replicate m.toNat z), [0 ≤ m, roomP m.toNat bytes])
  | _, _ => none)
 | some _ => (elsA h sz (opd s y)).map fun n => (n, [])
 | none => none
theorem appNewD_ok {P : Program} {s : List A} {h : Heap} {u e : TypeId} {sz bytes : Nat} {y : Operand} {new : EL} {q : List Prop} (hd : appNewD P s h u e sz bytes y = some (new, q)) (hq : All q) : appNew P s h u e sz bytes y = some new := by
 unfold appNewD at hd
 unfold appNew
 split at hd
 ·split at hd
  ·rename_i m z hm hz
   simp only [Option.some.injEq, Prod.mk.injEq] at hd
   obtain ⟨rfl, rfl⟩ := hd
   simp only [*]
   rw [if_pos ⟨hq.1, room_of hq.2.1⟩]
  ·cases hd
 ·rename_i d hne hu
  simp only [Option.map_eq_some_iff, Prod.mk.injEq] at hd
  obtain ⟨n, h1, rfl, rfl⟩ := hd
  simp only [*]
 ·cases hd
def dirD (P : Program) (s : List A) (h : Heap) (op : Op) : Option (A × Heap × List Prop) := (evOp P (fun _ _ _ => none) s h op).map fun (a, h') => (a, h', [])
def opD (P : Program) (cf : Callees) (s : List A) (h : Heap) (it : Option It) (op : Op) : Option (A × Heap × List Prop) :=
 match op with
 | .binOp o t x y _ => (binD P o t (opd s x) (opd s y) it).map fun (a, p) => (a, h, p)
 | .convert src dst x => (match cls P (.convert src dst x) with
  | .sil => (convD P src dst (opd s x)).map fun (a, p) => (a, h, p)
  | .rdo => (match it with
   | some (.txt bs) => (match P.underlying src, P.underlying dst with
    | some (.slice e), some .string => (match P.underlying e, elsN h 1 (opd s x) with
     | some (.int .u8), some (.p l) => some (.c (.v (.str ⟨bs.toArray⟩)), h, [bytesOf l = some bs])
     | _, _ => none)
    | _, _ => none)
   | _ => dirD P s h (.convert src dst x))
  | .alo => (match P.underlying src, P.underlying dst, opd s x with
   | some .string, some (.slice e), .c (.v (.str t)) => (match P.underlying e with
    | some (.int .u8) => some (.c (.slw h.length 1 t.size), h ++ [some (.pur 1 (t.data.toList.map fun x => [.int .u8 x.toNat]))], [t.size ≤ 140737488355328])
    | _ => none)
   | _, _, _ => none)
  | .cnv => dirD P s h (.convert src dst x)
  | .eff => dirD P s h (.convert src dst x))
 | .indexAddr t x ix => (indexAddrD P t (opd s x) (opd s ix) it).map fun (a, p) => (a, h, p)
 | .index t x ix => (indexD P t (opd s x) (opd s ix) it).map fun (a, p) => (a, h, p)
 | .slice t x lo hi mx => (sliceD P t s (opd s x) lo hi mx).map fun (a, p) => (a, h, p)
 | .load t a => (match aggT P t, szOf P t with
  | some g, some n => (loadD h g n (opd s a) it).map fun (r, p) => (r, h, p)
  | _, _ => none)
 | .store t a x => (match szOf P t with
  | some n => (storeD h n (opd s a) (opd s x) it).map fun (h', p) => (undA, h', p)
  | none => none)
 | .makeSlice t l c => (match elemT P t, opd s l, opd s c with
  | some e, .c (.v (.int _ n)), .c (.v (.int _ m)) => (match szOf P e, zeroF P e, bytesT P e with
   | some sz, some z, some bytes => if z.length = sz ∧ 0 < sz then
     (match sameOpd l c with
     | true => some (.c (.slw h.length sz m.toNat), h ++ [some (.pur sz (List.replicate m.toNat (nrmL (maskT P 20 e) z)))], [0 ≤ n, n ≤ m, roomP m.toNat bytes])
     | false => some (.c (.sl h.length sz 0 n.toNat (some m.toNat)), h ++ [some (.pur sz (List.replicate m.toNat (nrmL (maskT P 20 e) z)))], [0 ≤ n, n ≤ m, roomP m.toNat bytes])) else none
   | _, _, _ => none)
  | _, _, _ => none)
 | .call { callee := .builtin .append, args, argTypes } => (match argTypes[0]?, argTypes[1]?, args[0]?, args[1]? with
  | some t, some u, some x, some y => (match elemT P t with
   | some e => (match szOf P e, bytesT P e with
    | some sz, some bytes => if 0 < sz ∧ zOk P e sz = true then (match appNewD P s h u e sz bytes y with
     | some (new, q) => (appendD h sz bytes (opd s x) new it).map fun (a, h', p) => (a, h', q ++ p)
     | none => none) else none
    | _, _ => none)
   | none => none)
  | _, _, _, _ => none)
 | .call { callee := .value f, args, argTypes } => (match it, calleeA s f (args.toList.map (opd s)) with
  | some (.ret r h'), some (f, l) => (match P.funcs[f]? with
   | some fn => if fn.body.isSome && fn.name != "runtime.NumGoroutine" then
     some (r.ren (back (reach h deep (refsAs l) []) h.length),
      setAll h (reach h deep (refsAs l) []) ((h'.take (reach h deep (refsAs l) []).length).map (renB (back (reach h deep (refsAs l) []) h.length))) ++ (h'.drop (reach h deep (refsAs l) []).length).map (renB (back (reach h deep (refsAs l) []) h.length)),
      [cf f (renAs (pos (reach h deep (refsAs l) [])) l) (subHeap h (reach h deep (refsAs l) [])) = some (r, h')]) else none
   | none => none)
  | _, _ => none)
 | op => dirD P s h op
theorem dir_ok {P : Program} {cf : Callees} {s : List A} {h h' : Heap} {op : Op} {r : A} {p : List Prop} (hd : dirD P s h op = some (r, h', p)) (hn : ∀ f args ts, op ≠ .call { callee := .value f, args := args, argTypes := ts }) : evOp P cf s h op = some (r, h') := by
 unfold dirD at hd
 simp only [Option.map_eq_some_iff, Prod.mk.injEq] at hd
 obtain ⟨⟨a, h1⟩, hd, rfl, rfl, _⟩ := hd
 unfold evOp at hd ⊢
 split at hd
 ·exact hd
 ·exact hd
 ·exact hd
 ·unfold effC at hd ⊢
  split at hd
  ·exact absurd rfl (hn _ _ _)
  ·exact hd
 ·exact hd
theorem opD_ok {P : Program} {cf : Callees} {s : List A} {h h' : Heap} {it : Option It} {op : Op} {r : A} {p : List Prop} (hd : opD P cf s h it op = some (r, h', p)) (hp : All p) : evOp P cf s h op = some (r, h') := by
 unfold opD at hd
 split at hd
 ·simp only [Option.map_eq_some_iff, Prod.mk.injEq] at hd
  obtain ⟨⟨a, q⟩, hd, rfl, rfl, rfl⟩ := hd
  simp [evOp, cls, sil, binD_ok hd hp]
 ·rename_i src dst x
  split at hd
  ·rename_i hc
   simp only [Option.map_eq_some_iff, Prod.mk.injEq] at hd
   obtain ⟨⟨a, q⟩, hd, rfl, rfl, rfl⟩ := hd
   simp [evOp, hc, sil, convD_ok hd hp]
  ·rename_i hc
   split at hd
   ·split at hd
    ·rename_i e h1 h2
     split at hd
     ·rename_i l h3 h4
      simp only [Option.some.injEq, Prod.mk.injEq] at hd
      obtain ⟨rfl, rfl, rfl⟩ := hd
      simp only [All, and_true] at hp
      simp [evOp, hc, rdo, h1, h2, h3, h4, hp]
     ·cases hd
    ·cases hd
   ·exact dir_ok hd (by intros; simp)
  ·rename_i hc
   split at hd
   ·rename_i e t h1 h2 h3
    split at hd
    ·rename_i h4
     simp only [Option.some.injEq, Prod.mk.injEq] at hd
     obtain ⟨rfl, rfl, rfl⟩ := hd
     simp only [All, and_true] at hp
     simp [evOp, hc, alo, h1, h2, h3, h4, hp]
    ·cases hd
   ·cases hd
  ·exact dir_ok hd (by intros; simp)
  ·exact dir_ok hd (by intros; simp)
 ·simp only [Option.map_eq_some_iff, Prod.mk.injEq] at hd
  obtain ⟨⟨a, q⟩, hd, rfl, rfl, rfl⟩ := hd
  simp [evOp, cls, sil, indexAddrD_ok hd hp]
 ·simp only [Option.map_eq_some_iff, Prod.mk.injEq] at hd
  obtain ⟨⟨a, q⟩, hd, rfl, rfl, rfl⟩ := hd
  simp [evOp, cls, sil, indexD_ok hd hp]
 ·simp only [Option.map_eq_some_iff, Prod.mk.injEq] at hd
  obtain ⟨⟨a, q⟩, hd, rfl, rfl, rfl⟩ := hd
  simp [evOp, cls, sil, sliceD_ok hd hp]
 ·split at hd
  ·rename_i g n h1 h2
   simp only [Option.map_eq_some_iff, Prod.mk.injEq] at hd
   obtain ⟨⟨a, q⟩, hd, rfl, rfl, rfl⟩ := hd
   simp [evOp, cls, rdo, h1, h2, loadD_ok hd hp]
  ·cases hd
 ·split at hd
  ·rename_i n h1
   simp only [Option.map_eq_some_iff, Prod.mk.injEq] at hd
   obtain ⟨⟨a, q⟩, hd, rfl, rfl, rfl⟩ := hd
   simp [evOp, cls, effC, eff, h1, storeD_ok hd hp]
  ·cases hd
 ·split at hd
  ·rename_i e k1 n k2 m h1 h2 h3
   split at hd
   ·rename_i sz z bytes h4 h5 h6
    split at hd
    ·rename_i hc
     split at hd
     ·rename_i hsame
      simp only [Option.some.injEq, Prod.mk.injEq] at hd
      obtain ⟨rfl, rfl, rfl⟩ := hd
      simp only [All, and_true] at hp
      obtain ⟨p1, p2, p3⟩ := hp
      simp only [evOp, cls, alo, h1, h2, h3, h4, h5, h6]
      rw [if_pos ⟨hc.1, hc.2, p1, p2, room_of p3⟩]
      simp [hsame]
     ·rename_i hsame
      simp only [Option.some.injEq, Prod.mk.injEq] at hd
      obtain ⟨rfl, rfl, rfl⟩ := hd
      simp only [All, and_true] at hp
      obtain ⟨p1, p2, p3⟩ := hp
      simp only [evOp, cls, alo, h1, h2, h3, h4, h5, h6]
      rw [if_pos ⟨hc.1, hc.2, p1, p2, room_of p3⟩]
      simp [hsame]
    ·cases hd
   ·cases hd
  ·cases hd
 ·split at hd
  ·rename_i t u x y h1 h2 h3 h4
   split at hd
   ·rename_i e h5
    split at hd
    ·rename_i sz bytes h6 h7
     split at hd
     ·rename_i hc
      split at hd
      ·rename_i new q h9
       simp only [Option.map_eq_some_iff, Prod.mk.injEq] at hd
       obtain ⟨⟨a1, h1', p1⟩, hd, rfl, rfl, rfl⟩ := hd
       rw [All_app] at hp
       have this := appendD_ok hd hp.2
       have h10 := appNewD_ok h9 hp.1
       simp only [evOp, cls, effC, eff, h1, h2, h3, h4, h5, h6, h7]
       rw [if_pos hc]
       simp only [h10, this]
      ·cases hd
     ·cases hd
    ·cases hd
   ·cases hd
  ·cases hd
 ·split at hd
  ·rename_i r0 h0 f' l hl
   split at hd
   ·rename_i fn hfn
    split at hd
    ·rename_i hb
     simp only [Option.some.injEq, Prod.mk.injEq] at hd
     obtain ⟨rfl, rfl, rfl⟩ := hd
     simp only [All, and_true] at hp
     simp only [evOp, cls, effC, hl, hfn, callA]
     rw [if_pos hb, hp]
    ·cases hd
   ·cases hd
  ·cases hd
 ·rename_i hn
  refine dir_ok hd ?_
  rintro f args ts rfl
  exact hn f args ts rfl
end Go.Ev

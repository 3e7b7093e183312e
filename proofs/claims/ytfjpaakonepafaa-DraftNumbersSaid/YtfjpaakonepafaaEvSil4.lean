import Derived.Test.YtfjpaakonepafaaEvSil3
set_option linter.all false
namespace Go.Ev
variable [Glo]
set_option linter.unusedSimpArgs false
variable {P : Program} {Φ : Phi} {ρ : Rho} {H : Heap} {s : List A} {a : Act}
theorem CL.put_c (cl : CL) (off : Nat) (x : CL) : (cl.put off x).c = cl.c.take off ++ x.c ++ cl.c.drop (off + x.len) := by
 cases cl <;> cases x <;> simp [CL.put, CL.c, CL.len, List.map_take, List.map_drop]
theorem CL.put_len {cl : CL} {off : Nat} {x : CL} (h : off + x.len ≤ cl.len) : (cl.put off x).len = cl.len := by
 rw [← CL.c_len, CL.put_c]
 simp only [List.length_append, List.length_take, List.length_drop, CL.c_len]
 omega
theorem CRs_splice {L X : List C} {g g2 g' : Nat → Option Value} {b off b2 : Nat} (hL : CRs Φ ρ H L g b) (hX : CRs Φ ρ H X g2 b2) (ho : off + X.length ≤ L.length)
  (h1 : ∀ j, j < X.length → g' (b + off + j) = g2 (b2 + j)) (h2 : ∀ j, j < L.length → (j < off ∨ off + X.length ≤ j) → g' (b + j) = g (b + j)) :
  CRs Φ ρ H (L.take off ++ X ++ L.drop (off + X.length)) g' b := by
 refine CRs_iff.2 fun i x hi => ?_
 rw [List.append_assoc, List.getElem?_append] at hi
 split at hi
 ·rename_i hlt
  rw [List.getElem?_take] at hi
  split at hi
  ·obtain ⟨v, hv, hr⟩ := CRs_get hL hi
   exact ⟨v, by rw [h2 i (by simp at hlt; omega) (by omega)]; exact hv, hr⟩
  ·cases hi
 ·rename_i hge
  simp only [List.length_take] at hge hi
  rw [Nat.min_eq_left (by omega)] at hge hi
  rw [List.getElem?_append] at hi
  split at hi
  ·rename_i hlt
   obtain ⟨v, hv, hr⟩ := CRs_get hX hi
   refine ⟨v, ?_, hr⟩
   have := h1 (i - off) (by omega)
   rw [show b + off + (i - off) = b + i from by omega] at this
   rw [this]; exact hv
  ·rename_i hge2
   rw [List.getElem?_drop] at hi
   obtain ⟨v, hv, hr⟩ := CRs_get hL hi
   have hlt : off + X.length + (i - off - X.length) < L.length := (List.getElem?_eq_some_iff.1 hi).1
   rw [show off + X.length + (i - off - X.length) = i from by omega] at hlt hv
   exact ⟨v, by rw [h2 i hlt (by omega)]; exact hv, hr⟩
theorem foldset : ∀ (l : List Value) (k off : Nat) (arr : Array Value),
  ((l.zipIdx k).foldl (fun (cs : Array Value) (x : Value × Nat) => cs.setIfInBounds (off + x.2) x.1) arr).size = arr.size ∧
  ∀ i, ((l.zipIdx k).foldl (fun (cs : Array Value) (x : Value × Nat) => cs.setIfInBounds (off + x.2) x.1) arr)[i]? =
   if off + k ≤ i ∧ i < off + k + l.length ∧ i < arr.size then l[i - off - k]? else arr[i]?
 | [], k, off, arr => by
  refine ⟨rfl, fun i => ?_⟩
  simp only [List.zipIdx_nil, List.foldl_nil]
  rw [if_neg]
  simp only [List.length_nil]; omega
 | v :: l, k, off, arr => by
  obtain ⟨h1, h2⟩ := foldset l (k + 1) off (arr.setIfInBounds (off + k) v)
  simp only [List.zipIdx_cons, List.foldl_cons]
  refine ⟨by rw [h1]; simp, fun i => ?_⟩
  rw [h2]
  simp only [Array.size_setIfInBounds, List.length_cons]
  by_cases hi : i = off + k
  ·subst hi
   by_cases hs : off + k < arr.size
   ·rw [if_neg (by omega), if_pos (by omega)]
    simp [hs]
   ·rw [if_neg (by omega), if_neg (by omega)]
    simp [hs]
  ·by_cases hc : off + (k + 1) ≤ i ∧ i < off + (k + 1) + l.length ∧ i < arr.size
   ·rw [if_pos hc, if_pos (by omega)]
    obtain ⟨m, hm⟩ : ∃ m, i - off - k = m + 1 := ⟨i - off - k - 1, by omega⟩
    rw [hm, List.getElem?_cons_succ]
    congr 1; omega
   ·rw [if_neg hc, if_neg (by omega), Array.getElem?_setIfInBounds_ne (by omega)]
theorem fillA_ok {place : Nat → Option (Nat × Nat)} : ∀ {parts : List (Nat × A)} {vs : List (Nat × Value)} {acc cl : CL} {arr : Array Value}, fillA place acc parts = some cl →
  parts.map (·.1) = vs.map (·.1) → (∀ (i : Nat) (p : Nat × A), parts[i]? = some p → ∃ q, vs[i]? = some q ∧ AR Φ ρ H p.2 q.2) → arr.size = acc.len → CLR Φ ρ H acc (arr[·]?) 0 →
  ∃ arr', Instr.fill place arr vs = some arr' ∧ arr'.size = cl.len ∧ CLR Φ ρ H cl (arr'[·]?) 0
 | [], vs, acc, cl, arr, h, hi, hr, hs, hc => by
  simp only [fillA] at h; cases h
  cases vs with
  | nil => exact ⟨arr, rfl, hs, hc⟩
  | cons => simp at hi
 | (i, x) :: r, vs, acc, cl, arr, h, hi, hr, hs, hc => by
  cases vs with
  | nil => simp at hi
  | cons q vs =>
   obtain ⟨i', v⟩ := q
   simp only [List.map_cons, List.cons.injEq] at hi
   obtain ⟨rfl, hi⟩ := hi
   simp only [fillA] at h
   split at h
   ·rename_i off n cx hp hx
    split at h
    ·rename_i hle
     obtain ⟨q, hq, hxv⟩ := hr 0 (i, x) rfl
     simp at hq; subst hq
     obtain ⟨e1, e2⟩ := cellsA_ok hx hxv
     simp only at e1 e2
     have hfs := foldset v.cells.toList 0 off arr
     have := fillA_ok (arr := v.cells.zipIdx.foldl (fun cs (c, j) => cs.setIfInBounds (off + j) c) arr) (vs := vs) h hi
      (fun j p hp => by simpa using hr (j + 1) p (by simpa using hp)) ?_ ?_
     ·obtain ⟨arr', g1, g2, g3⟩ := this
      refine ⟨arr', ?_, g2, g3⟩
      simp only [Instr.fill, hp]
      rw [if_neg]
      ·exact g1
      ·simp only [Bool.or_eq_true, bne_iff_ne, decide_eq_true_eq, ne_eq]
       simp [e1]; omega
     ·rw [← Array.foldl_toList, Array.toList_zipIdx]
      rw [hfs.1, hs, CL.put_len (by omega)]
     ·rw [← Array.foldl_toList, Array.toList_zipIdx]
      rw [CLR_c, CL.put_c]
      rw [CLR_c] at hc e2
      rw [← CL.c_len cx]
      refine CRs_splice (b := 0) hc e2 (by rw [CL.c_len, CL.c_len]; omega) ?_ ?_
      ·intro j hj
       rw [CL.c_len] at hj
       rw [hfs.2]
       rw [if_pos (by simp; omega)]
       simp
      ·intro j hj ho
       rw [CL.c_len] at hj ho
       rw [hfs.2]
       rw [if_neg (by simp; omega)]
    ·cases h
   ·cases h
theorem mapM_run {α β : Type} {f : α → Sem β} {w : World} : ∀ {l : List α} {r : List β}, l.length = r.length → (∀ (i : Nat) (x : α) (y : β), l[i]? = some x → r[i]? = some y → (f x).run P w = .ok y w) → (l.mapM f).run P w = .ok r w
 | [], r, h, _ => by
  cases r with
  | nil => rfl
  | cons => simp at h
 | x :: l, r, h, hf => by
  cases r with
  | nil => simp at h
  | cons y r =>
   simp only [List.mapM_cons, Sem.run_bind]
   rw [hf 0 x y rfl rfl]
   simp only [Result.andThen_ok]
   rw [mapM_run (r := r) (by simpa using h) (fun i a b ha hb => hf (i + 1) a b (by simpa using ha) (by simpa using hb))]
   rfl
theorem zeroF_ok {t : TypeId} {z : List FV} (h : zeroF P t = some z) : ∃ v, (∀ w, (zeroValue t).run P w = .ok v w) ∧ v.cells.size = z.length ∧ FVRs Φ z (v.cells[·]?) 0 := by
 unfold zeroF at h
 split at h
 ·rename_i v hv
  simp only [Option.bind_eq_some_iff] at hv
  obtain ⟨i, hi, hz⟩ := hv
  obtain ⟨e1, e2⟩ := allSome_get h
  refine ⟨v, fun w => by simp [zeroValue, typeInfo, hi, hz], by simpa using e1, FVRs_iff.2 fun j x hj => ?_⟩
  obtain ⟨u, hu, hx⟩ := e2 j x hj
  exact ⟨u, by simpa using hu, constF_ok hx⟩
 ·cases h
theorem buildA_ok {t : TypeId} {parts : List (Nat × A)} {r : A} {vs : Array (Nat × Value)} (h : buildA P t parts = some r) (h1 : parts.map (·.1) = vs.toList.map (·.1))
  (h2 : ∀ (i : Nat) (p : Nat × A), parts[i]? = some p → ∃ q, vs.toList[i]? = some q ∧ AR Φ ρ H p.2 q.2) (w : World) :
  ∃ z, (Instr.build t vs).run P w = .ok z w ∧ AR Φ ρ H r z := by
 unfold buildA at h
 split at h
 ·rename_i z pl hz hpl
  simp only [Option.map_eq_some_iff] at h
  obtain ⟨cl, hcl, rfl⟩ := h
  unfold placesF at hpl
  split at hpl
  ·rename_i fs hu
   simp only [Option.map_eq_some_iff] at hpl
   obtain ⟨l, hl, rfl⟩ := hpl
   obtain ⟨zv, hzv, hz1, hz2⟩ := zeroF_ok (Φ := Φ) hz
   obtain ⟨arr', g1, g2, g3⟩ := fillA_ok (acc := .p z) (arr := zv.cells) (vs := vs.toList) hcl h1 h2 hz1 hz2
   obtain ⟨e1, e2⟩ := allSome_get hl
   have hm : (fs.mapM fun f => do pure (f.offset, ← sizeOf f.type) : Sem (Array (Nat × Nat))).run P w = .ok l.toArray w := by
    rw [Array.mapM_eq_mapM_toList, Sem.run_map]
    rw [mapM_run (r := l) e1]
    ·rfl
    ·intro i x y hx hy
     obtain ⟨x', hx', hs⟩ := e2 i y hy
     rw [hx] at hx'; cases hx'
     simp only [Option.map_eq_some_iff] at hs
     obtain ⟨n, hn, rfl⟩ := hs
     simp only [Sem.run_bind, szOf_run hn, Result.andThen_ok]; rfl
   refine ⟨.agg arr', ?_, ?_⟩
   ·simp only [Instr.build, Sem.run_bind, hzv, Result.andThen_ok, underlying_run hu]
    rw [hm]
    simp only [Result.andThen_ok]
    have : (fun i => l.toArray[i]?) = fun i : Nat => l[i]? := by funext i; simp
    rw [this, g1]
    rfl
   ·cases cl with
    | p l => simp only [CL.agg, AR]; exact ⟨_, rfl, g2, g3⟩
    | m l => simp only [CL.agg, AR]; exact ⟨_, rfl, g2, g3⟩
  ·cases hpl
 ·cases h
theorem lenT_ok {t : TypeId} {x r : A} {v : Value} (h : lenT P t x = some r) (hx : AR Φ ρ H x v) (ty : TypeId) (ts : Array TypeId) (rest : Array Value) (ht : ts[0]? = some t) (hr : rest[0]? = some v) (w : World) :
  ∃ z, (Builtin.len_ ts ty rest).run P w = .ok z w ∧ AR Φ ρ H r z := by
 unfold lenT at h
 split at h
 ·rename_i hu; cases h
  simp only [AR, CR, FVR] at hx; subst hx
  refine ⟨_, ?_, by simp [AR, CR, FVR]; rfl⟩
  simp [Builtin.len_, ht, hr, underlying_run hu, goInt]
 ·rename_i hu; cases h
  simp only [AR, CR, FVR] at hx
  obtain ⟨p, k, rfl, _⟩ := hx
  refine ⟨_, ?_, by simp [AR, CR, FVR]; rfl⟩
  simp [Builtin.len_, ht, hr, underlying_run hu, goInt]
 ·rename_i hu; cases h
  simp only [AR, CR] at hx
  obtain ⟨p, k, rfl, _⟩ := hx
  refine ⟨_, ?_, by simp [AR, CR, FVR]; rfl⟩
  simp [Builtin.len_, ht, hr, underlying_run hu, goInt]
 ·rename_i hu; cases h
  simp only [AR, CR] at hx
  obtain ⟨p, k, rfl, _⟩ := hx
  refine ⟨_, ?_, by simp [AR, CR, FVR]; rfl⟩
  simp [Builtin.len_, ht, hr, underlying_run hu, goInt]
 ·cases h
theorem capT_ok {t : TypeId} {x r : A} {v : Value} (h : capT P t x = some r) (hx : AR Φ ρ H x v) (ty : TypeId) (ts : Array TypeId) (rest : Array Value) (ht : ts[0]? = some t) (hr : rest[0]? = some v) (w : World) :
  ∃ z, (Builtin.cap_ ts ty rest).run P w = .ok z w ∧ AR Φ ρ H r z := by
 unfold capT at h
 split at h
 ·rename_i hu; cases h
  simp only [AR, CR, FVR] at hx
  obtain ⟨p, k, rfl, hk, _⟩ := hx
  have := hk.2 _ rfl; subst this
  refine ⟨_, ?_, by simp [AR, CR, FVR]; rfl⟩
  simp [Builtin.cap_, ht, hr, underlying_run hu, goInt]
 ·rename_i hu; cases h
  simp only [AR, CR] at hx
  obtain ⟨p, k, rfl, hk, _⟩ := hx
  have := hk.2 _ rfl; subst this
  refine ⟨_, ?_, by simp [AR, CR, FVR]; rfl⟩
  simp [Builtin.cap_, ht, hr, underlying_run hu, goInt]
 ·cases h
theorem minmax_ok {gA : IntKind → Int → Int → Int} {gM : Value → Value → Sem Value} (hg : ∀ k x y w, (gM (.int k x) (.int k y)).run P w = .ok (.int k (gA k x y)) w) :
  ∀ {l : List A} {vs : List Value} {x r : A} {v : Value}, l.foldl (fun acc y => match acc, y with
   | some (.c (.v (.int k a))), .c (.v (.int k' b)) => if k = k' then some (.c (.v (.int k (gA k a b)))) else none
   | _, _ => none) (some x) = some r → AR Φ ρ H x v → ARs Φ ρ H l vs → ∀ w : World, ∃ z, (vs.foldlM gM v).run P w = .ok z w ∧ AR Φ ρ H r z
 | [], vs, x, r, v, h, hx, hl, w => by
  simp only [ARs] at hl; subst hl
  simp at h; subst h
  exact ⟨v, rfl, hx⟩
 | y :: l, vs, x, r, v, h, hx, hl, w => by
  simp only [ARs] at hl
  obtain ⟨u, vs', rfl, hy, hl⟩ := hl
  rw [List.foldl_cons] at h
  have none_ : ∀ (l : List A), l.foldl (fun acc y => match acc, y with
   | some (.c (.v (.int k a))), .c (.v (.int k' b)) => if k = k' then some (.c (.v (.int k (gA k a b)))) else none
   | _, _ => none) (none : Option A) = none := by
   intro l; induction l with
   | nil => rfl
   | cons a l ih => rw [List.foldl_cons]; exact ih
  split at h
  ·rename_i k x' k' y' he
   cases he
   split at h
   ·rename_i hk; subst hk
    simp only [AR, CR, FVR] at hx hy
    subst hx; subst hy
    obtain ⟨z, hz, hr⟩ := minmax_ok hg (v := .int k (gA k x' y')) h (by simp [AR, CR, FVR]) hl w
    refine ⟨z, ?_, hr⟩
    rw [List.foldlM_cons, Sem.run_bind, hg]
    exact hz
   ·rw [none_] at h; cases h
  ·rw [none_] at h; cases h
end Go.Ev

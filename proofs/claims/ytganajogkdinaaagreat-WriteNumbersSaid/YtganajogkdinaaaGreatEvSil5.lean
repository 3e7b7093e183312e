import Derived.Test.YtganajogkdinaaaGreatEvRel
import Derived.Laws.Sem
import Derived.WalkKit
import Derived.Laws.StructEq
set_option linter.all false
namespace Go.Ev
variable[Glo]
set_option linter.unusedSimpArgs false
variable{P:Program}{Φ:Phi}{ρ:Rho}{H:Heap}{s:List A}{a:Act}
theorem ac2:∀ {v:Value}{x:FV},constF v=some x->FVR Φ x v:=by
  intro v x h
  cases v <;> simp only[constF]at h <;> (try (cases h;done)) <;> (try (cases h;simp[FVR];done))
  case pointer a=>
    cases a with
    | none=>simp only[constF]at h;cases h;simp[FVR]
    | some a=>simp only[constF]at h;cases h
  case slice p n k=>
    cases p with
    | some a=>simp only[constF]at h;cases h
    | none=>
      simp only[constF]at h
      split at h
      · rename_i hc;obtain⟨rfl,rfl⟩:=hc;cases h;simp only[FVR];exact⟨_,_,rfl,⟨Nat.le_refl _,by simp⟩,by simp,by simp⟩
      · cases h
  case func fn f c=>
    cases fn <;> simp only[constF]at h <;> (try (cases h;done))
    split at h
    · rename_i hc
      cases h
      obtain⟨h1,h2⟩:=hc
      have e1:f = #[]:=Array.eq_empty_of_size_eq_zero h1
      subst e1
      exact⟨c,rfl,by simpa using h2,by simp[FVRs]⟩
    · cases h
theorem abx{α β:Type}{g:α->Option β}:∀ {l:List α}{r:List β},allSome g l=some r->l.length=r.length/\∀ (i:Nat) (y:β),r[i]?=some y->∃ x,l[i]?=some x/\g x=some y
  | [],r,h=>by simp[allSome]at h;subst h;simp
  | x::l,r,h=>by
    simp only[allSome]at h
    split at h
    · rename_i y ys h1 h2
      cases h
      obtain⟨e1,e2⟩:=abx h2
      refine⟨by simp[e1],λi z hi=>?_⟩
      cases i with
      | zero=>simp at hi;subst hi;exact⟨x,rfl,h1⟩
      | succ i=>simpa using e2 i z (by simpa using hi)
    · cases h
theorem aiN(v:Value):AR Φ ρ H (ahC v) v:=by
  unfold ahC
  split
  · split
    · rename_i arr _ l hl
      obtain⟨e1,e2⟩:=abx hl
      simp only[AR]
      refine⟨arr,rfl,by simpa using e1,abf.2 λi x hi=>?_⟩
      obtain⟨u,hu,hx⟩:=e2 i x hi
      exact⟨u,by simpa using hu,ac2 hx⟩
    · simp[AR]
  · split
    · rename_i arr h
      simp only[AR]
      exact⟨arr,rfl,by have:=Array.eq_empty_of_size_eq_zero h;subst this;simp[ARs]⟩
    · simp[AR]
  · split
    · rename_i h;simp only[AR,CR];exact ac2 h
    · simp[AR]
theorem aaN(h:SR Φ ρ H s a.tmps)(x:Operand):AR Φ ρ H (opd s x) (a.eval x):=by
  cases x with
  | tmp t=>
    simp only[opd,Act.eval,List.getD_eq_getElem?_getD]
    cases hx:s[t]? with
    | none=>simp[AR]
    | some y=>
      obtain⟨v,hv,ha⟩:=h.2 t y hx
      simpa[Array.getD_eq_getD_getElem?,hv]using ha
  | const v=>exact aiN v
  | global g=>simp[opd,AR]
  | func f=>simp[opd,AR,CR,FVR,Act.eval,FVRs]
theorem ab5{x:A}{cl:CL}{v:Value}(h:acD x=some cl)(hx:AR Φ ρ H x v):v.cells.size=cl.len/\CLR Φ ρ H cl (v.cells[·]?) 0:=by
  unfold acD at h
  split at h
  · cases h
    simp only[AR,CR]at hx
    have h1:=aeW hx
    have:v.cells = #[v]:=by cases v <;> first | rfl | (simp[Value.oneCell']at h1)
    rw[this]
    exact⟨rfl,by simp[CLR,FVRs,hx]⟩
  · rename_i y _
    cases h
    simp only[AR]at hx
    have h1:=ad9 hx
    have:v.cells = #[v]:=by cases v <;> first | rfl | (simp[Value.oneCell']at h1)
    rw[this]
    exact⟨rfl,by simp[CLR,CRs,hx]⟩
  · cases h
    simp only[AR]at hx
    obtain⟨arr,rfl,h1,h2⟩:=hx
    exact⟨h1,h2⟩
  · cases h
    simp only[AR]at hx
    obtain⟨arr,rfl,h1,h2⟩:=hx
    exact⟨h1,h2⟩
  · cases h
theorem aas{t:TypeId}{n:Nat}(h:szOf P t=some n)(w:World):(sizeOf t).run P w = .ok n w:=by
  simp only[szOf,Option.map_eq_some_iff]at h
  obtain⟨i,hi,rfl⟩:=h
  simp[sizeOf,typeInfo,hi]
theorem aaf{t:TypeId}{d:TypeDesc}(h:P.underlying t=some d)(w:World):(underlying t).run P w = .ok d w:=by
  simp[underlying,h]
theorem ae7{t:TypeId}{g:Bool}(h:aggT P t=some g)(w:World):(isAgg t).run P w = .ok g w:=by
  unfold aggT at h
  cases hu:P.underlying t with
  | none=>simp[hu]at h
  | some d=>
    simp only[hu]at h
    simp only[isAgg,Sem.run_bind,aaf hu,Result.andThen_ok]
    cases d <;> simp at h <;> subst h <;> rfl
theorem acu{t:TypeId}{n:Nat}(h:bytesT P t=some n):∃ i,P.info? t=some i/\i.bytes=n:=by
  simpa[bytesT,Option.map_eq_some_iff]using h
theorem aiU{cl:CL}{arr:Array Value}{t:TypeId}{off n:Nat}{g:Bool}{r:A}(hg:aggT P t=some g)(hn:szOf P t=some n)
    (h:cl.part g off n=some r) (hs:arr.size=cl.len) (hc:CLR Φ ρ H cl (arr[·]?) 0) (w:World) :
    ∃ v,(part t arr off).run P w = .ok v w/\AR Φ ρ H r v:=by
  simp only[part,Sem.run_bind,ae7 hg,Result.andThen_ok]
  cases g with
  | true=>
    simp only[if_true,Sem.run_bind,aas hn,Result.andThen_ok]
    cases cl with
    | p l=>
      simp only[CL.part]at h
      split at h
      · rename_i hl
        cases h
        refine⟨_,rfl,?_⟩
        simp only[AR]
        simp only[CL.len]at hs
        refine⟨_,rfl,by simp;omega,abf.2 λi x hi=>?_⟩
        rw[List.getElem?_take]at hi
        split at hi
        · rename_i hlt
          rw[List.getElem?_drop]at hi
          obtain⟨v,hv,hx⟩:=aaU hc hi
          refine⟨v,?_,hx⟩
          simp only[Nat.zero_add]at hv ⊢
          rw[Array.getElem?_extract,if_pos (by omega)]
          exact hv
        · cases hi
      · cases h
    | m l=>
      simp only[CL.part]at h
      split at h
      · rename_i hl
        cases h
        refine⟨_,rfl,?_⟩
        simp only[AR]
        simp only[CL.len]at hs
        refine⟨_,rfl,by simp;omega,CRs_iff.2 λi x hi=>?_⟩
        rw[List.getElem?_take]at hi
        split at hi
        · rename_i hlt
          rw[List.getElem?_drop]at hi
          obtain⟨v,hv,hx⟩:=aaz hc hi
          refine⟨v,?_,hx⟩
          simp only[Nat.zero_add]at hv ⊢
          rw[Array.getElem?_extract,if_pos (by omega)]
          exact hv
        · cases hi
      · cases h
  | false=>
    simp only[Bool.false_eq_true,if_false]
    cases cl with
    | p l=>
      simp only[CL.part,Option.map_eq_some_iff]at h
      obtain⟨x,hx,rfl⟩:=h
      obtain⟨v,hv,hr⟩:=aaU hc hx
      simp only[Nat.zero_add]at hv
      rw[hv]
      exact⟨v,rfl,by simpa[AR,CR]using hr⟩
    | m l=>
      simp only[CL.part,Option.map_eq_some_iff]at h
      obtain⟨x,hx,rfl⟩:=h
      obtain⟨v,hv,hr⟩:=aaz hc hx
      simp only[Nat.zero_add]at hv
      rw[hv]
      exact⟨v,rfl,by simpa[AR]using hr⟩
theorem ajp{op:BinOp}{k k':IntKind}{x y:Int}{r:FV}(h:ac7 op k x k' y=some r)(t:TypeId)(w:World) :
    ∃ v,(binOp op t (.int k x) (.int k' y)).run P w = .ok v w/\FVR Φ r v:=by
  unfold ac7 at h
  cases op <;> simp only at h
  case shl | shr=>
    split at h
    · cases h
    · rename_i hy
      cases h
      refine⟨_,?_,by simp only[FVR];rfl⟩
      simp[binOp,Op.shift,hy]
  all_goals
    split at h
    · rename_i hk
      subst hk
      first
        | (cases h;refine⟨_,?_,by simp only[FVR];rfl⟩;simp[binOp,Op.intArith,Op.intBits,Op.intCmp];done)
        | (split at h
           · cases h
           · rename_i hy
             cases h
             refine⟨_,?_,by simp only[FVR];rfl⟩
             simp[binOp,Op.intDiv,hy]
             done)
    · cases h
theorem ai0{op:BinOp}{x y:ByteArray}{r:FV}(h:af8 op x y=some r)(t:TypeId)(w:World) :
    ∃ v,(binOp op t (.string x) (.string y)).run P w = .ok v w/\FVR Φ r v:=by
  unfold af8 at h
  cases op <;> simp only at h <;> (try (cases h;done))
  case add=>
    split at h
    · cases h
    · rename_i hy
      cases h
      refine⟨_,?_,by simp only[FVR];rfl⟩
      simp only[binOp,Op.stringOp]
      rw[if_neg hy];rfl
  all_goals
    cases h
    refine⟨_,?_,by simp only[FVR];rfl⟩
    simp[binOp,Op.stringOp]
end Go.Ev
namespace Go.Ev
variable[Glo]
set_option linter.unusedSimpArgs false
variable{P:Program}{Φ:Phi}{ρ:Rho}{H:Heap}{s:List A}{a:Act}
theorem aam{op:BinOp}{t:TypeId}{x y:Operand}{v u:Value}(h1:v = .nilIface->u ≠ .nilIface)(h2:∀ c,v ≠ .agg c)(w:World) :
    (eqGuard op t x y v u).run P w = .ok () w:=by
  unfold eqGuard
  split
  case h_3=>rfl
  all_goals
    simp only[Bool.not_true,Bool.false_eq_true,if_false]
    split
    · exact absurd rfl (h1 rfl)
    · exact absurd rfl (h2 _)
    · rfl
theorem apd{t:TypeId}{x y:FV}{b:Bool}{v u:Value}(h:eqC P t x y=some b)(hx:FVR Φ x v)(hy:FVR Φ y u)(d:Nat)(w:World):(Op.equalIn (d+1) t v u).run P w = .ok b w:=by
  unfold eqC at h
  split at h
  all_goals (try (cases h;done))
  all_goals
    simp only[FVR]at hx hy
    subst hx;subst hy
    split at h
    all_goals (try (cases h;done))
  · rename_i hu
    split at h
    · rename_i hk;subst hk;cases h;exact run_equalIn_int w d t _ _ _ _ hu
    · cases h
  · rename_i hu;cases h;exact run_equalIn_bool' w d t _ _ hu
  · rename_i hu;cases h;exact run_equalIn_string w d t _ _ hu
theorem ajE{xs ys:List FV}{vs us:Array Value}(hx:FVRs Φ xs (vs[·]?) 0)(hy:FVRs Φ ys (us[·]?) 0)(d:Nat)(w:World):∀ {fs:List Field}{b:Bool},eqFs P xs ys fs=some b->(Op.eqFields (d+1) vs us fs).run P w = .ok b w
  | [],b,h=>by simp only[eqFs,Option.some.injEq]at h;subst h;rfl
  | f::r,b,h=>by
    simp only[eqFs]at h
    split at h
    · cases h
    · rename_i hn
      split at h
      · rename_i x y hg hx' hy'
        split at h
        · rename_i p q hp hq
          cases h
          obtain⟨v,v1,v2⟩:=aaU hx hx'
          obtain⟨u,u1,u2⟩:=aaU hy hy'
          rw[Nat.zero_add]at v1 u1
          have part_run:∀ {cs:Array Value}{z:Value},cs[f.offset]?=some z->(part f.type cs f.offset).run P w = .ok z w:=by
            intro cs z hz
            simp only[part,Sem.run_bind,ae7 hg,Result.andThen_ok,Bool.false_eq_true,if_false,hz,Sem.run_pure]
          simp only [Op.eqFields, if_pos (show f.name ≠ "_" from hn), Sem.run_bind, part_run v1, part_run u1, Result.andThen_ok, apd hp v2 u2 d w, Sem.run_ite]
          cases p with
          | false=>simp
          | true=>simpa using ajE hx hy d w hq
        · cases h
      · cases h
theorem am4{t:TypeId}{x y:A}{b:Bool}{v u:Value}(h:eqN P t x y=some b)(hx:AR Φ ρ H x v)(hy:AR Φ ρ H y u)(w:World) :
    (Op.equal t v u).run P w = .ok b w/\(∀ op ox oy,(eqGuard op t ox oy v u).run P w = .ok () w) ∧
      (binOp .eql t v u=do pure (.bool (<-Op.equal t v u)))/\(binOp .neq t v u=do pure (.bool (!(<-Op.equal t v u)))):=by
  obtain⟨d,key⟩:∃ d:Nat,Op.equal t v u=Op.equalIn (d+1) t v u:=⟨9999,rfl⟩
  unfold eqN at h
  split at h
  · simp only[AR,CR,FVR]at hx hy
    subst hx;subst hy
    split at h
    · rename_i hu
      cases h
      refine⟨?_,λ_ _ _=>aam (by simp) (by simp) w,rfl,rfl⟩
      rw[key]
      simp[Op.equalIn,underlying,hu]
    · cases h
  · simp only[AR]at hx hy
    obtain⟨vs,rfl,_,hx⟩:=hx
    obtain⟨us,rfl,_,hy⟩:=hy
    split at h
    · rename_i fs hu
      split at h
      · rename_i hc
        obtain⟨c1,c2⟩:=hc
        have hf:P.fieldsOf t=fs:=by simp[Program.fieldsOf,hu]
        refine⟨?_,λ_ _ _=>run_eqGuard_agg w _ _ _ _ _ _ c2,rfl,rfl⟩
        have:=run_equalIn_struct (P:=P) w 9999 t vs us (by rw[hf];exact hu) c1
        rw[hf]at this
        rw[Op.equal,Op.maxDepth,this]
        exact ajE hx hy 9998 w h
      · cases h
    · cases h
  · simp only[AR]at hx hy
    split at h
    · rename_i hu
      split at h
      all_goals (try (cases h;done))
      all_goals simp only[CR,FVR]at hx hy
      · subst hx;subst hy;cases h
        refine⟨?_,λ_ _ _=>aam (by simp) (by simp) w,rfl,rfl⟩
        rw[key];simp[Op.equalIn,underlying,hu]
      · obtain⟨p,rfl,_⟩:=hy;subst hx;cases h
        refine⟨?_,λ_ _ _=>aam (by simp) (by simp) w,rfl,rfl⟩
        rw[key];simp[Op.equalIn,underlying,hu]
      · obtain⟨c,off,arr,rfl,_⟩:=hy;subst hx;cases h
        refine⟨?_,λ_ _ _=>aam (by simp) (by simp) w,rfl,rfl⟩
        rw[key];simp[Op.equalIn,underlying,hu]
      · obtain⟨p,rfl,_⟩:=hx;subst hy;cases h
        refine⟨?_,λ_ _ _=>aam (by simp) (by simp) w,rfl,rfl⟩
        rw[key];simp[Op.equalIn,underlying,hu]
      · obtain⟨c,off,arr,rfl,_⟩:=hx;subst hy;cases h
        refine⟨?_,λ_ _ _=>aam (by simp) (by simp) w,rfl,rfl⟩
        rw[key];simp[Op.equalIn,underlying,hu]
    · rename_i hu
      split at h
      all_goals (try (cases h;done))
      all_goals simp only[CR,FVR]at hx hy
      · obtain⟨u',rfl,_⟩:=hy;subst hx;cases h
        refine⟨?_,λ_ _ _=>aam (by simp) (by simp) w,rfl,rfl⟩
        rw[key];simp[Op.equalIn,underlying,hu]
      · obtain⟨u',rfl,_⟩:=hx;subst hy;cases h
        refine⟨?_,λ_ _ _=>aam (by simp) (by simp) w,rfl,rfl⟩
        rw[key];simp[Op.equalIn,underlying,hu]
    · rename_i hu
      split at h
      all_goals (try (cases h;done))
      all_goals simp only[CR,FVR]at hx hy
      · subst hx;subst hy;cases h
        refine⟨?_,λ_ _ _=>aam (by simp) (by simp) w,rfl,rfl⟩
        rw[key];simp[Op.equalIn,underlying,hu]
      · obtain⟨p,rfl,_⟩:=hy;subst hx;cases h
        refine⟨?_,λ_ _ _=>aam (by simp) (by simp) w,rfl,rfl⟩
        rw[key];simp[Op.equalIn,underlying,hu]
      · obtain⟨p,rfl,_⟩:=hx;subst hy;cases h
        refine⟨?_,λ_ _ _=>aam (by simp) (by simp) w,rfl,rfl⟩
        rw[key];simp[Op.equalIn,underlying,hu]
      · obtain⟨p,rfl,_⟩:=hy;subst hx;cases h
        refine⟨?_,λ_ _ _=>aam (by simp) (by simp) w,rfl,rfl⟩
        rw[key];simp[Op.equalIn,underlying,hu]
      · obtain⟨p,rfl,_⟩:=hx;subst hy;cases h
        refine⟨?_,λ_ _ _=>aam (by simp) (by simp) w,rfl,rfl⟩
        rw[key];simp[Op.equalIn,underlying,hu]
    · rename_i hu
      split at h
      · simp only[CR,FVR]at hy
        obtain⟨py,ky,rfl,hky,hny,_⟩:=hy
        have hpy:py=none:=(hny.2 (by simp)).2 trivial
        subst hpy
        have hkey:∃ p n k,v = .slice p n k/\p.isNone=b:=by
          unfold ag6 at h
          split at h
          · rename_i _ sz els cap _
            simp only[CR,FVR]at hx
            obtain⟨p,k,rfl,hc,h0,h1⟩:=hx
            refine⟨_,_,_,rfl,?_⟩
            split at h
            · rename_i hl
              cases h
              rcases h1 with h1 | ⟨c,off,arr,rfl,_⟩
              · subst h1;simp at hl
              · rfl
            · split at h
              · rename_i hcap
                cases h
                have:=h0.2 (by cases cap <;> simp_all)
                cases p with
                | none=>have:=this.1 rfl;subst this;rfl
                | some q=>
                  have:sz≠0:=λhz=>by have:=this.2 hz;cases this
                  simpa using this
              · cases h
          · rename_i _ b' sz i n cap _
            simp only[CR]at hx
            obtain⟨p,k,rfl,hc,hp,_⟩:=hx
            refine⟨_,_,_,rfl,?_⟩
            have:p≠none/\b=false:=by
              split at h
              · rename_i hl;cases h;exact⟨hp (.inl hl),rfl⟩
              · split at h
                · rename_i hl;cases h;exact⟨hp (.inr (by cases cap <;> simp_all)),rfl⟩
                · cases h
            obtain⟨h1,rfl⟩:=this
            cases p with
            | none=>exact absurd rfl h1
            | some q=>rfl
          · rename_i _ b' sz n _
            simp only[CR]at hx
            obtain⟨p,k,rfl,hc,hp,_⟩:=hx
            refine⟨_,_,_,rfl,?_⟩
            split at h
            · rename_i hl;cases h
              have:=hp hl
              cases p with
              | none=>exact absurd rfl this
              | some q=>rfl
            · cases h
          · cases h
        obtain⟨p,n,k,rfl,rfl⟩:=hkey
        refine⟨?_,λ_ _ _=>aam (by simp) (by simp) w,rfl,rfl⟩
        rw[key]
        cases p <;> simp[Op.equalIn,underlying,hu]
      · cases h
    · cases h
  · cases h
theorem aoD{op:BinOp}{t:TypeId}{x y:A}{r:A}{v u:Value}{ox oy:Operand}(h:binA P op t x y=some r)(hx:AR Φ ρ H x v)(hy:AR Φ ρ H y u)(w:World) :
    ∃ z,((do eqGuard op t ox oy v u;binOp op t v u:Sem Value)).run P w = .ok z w/\AR Φ ρ H r z:=by
  simp only[Sem.run_bind]
  unfold binA at h
  split at h
  · simp only[Option.map_eq_some_iff]at h
    obtain⟨q,hq,rfl⟩:=h
    simp only[AR,CR,FVR]at hx hy
    subst hx;subst hy
    obtain⟨z,hz,hr⟩:=ajp (Φ:=Φ) hq t w (P:=P)
    refine⟨z,?_,by simpa[AR,CR]using hr⟩
    rw[aam (by simp) (by simp)]
    simpa using hz
  · simp only[Option.map_eq_some_iff]at h
    obtain⟨q,hq,rfl⟩:=h
    simp only[AR,CR,FVR]at hx hy
    subst hx;subst hy
    obtain⟨z,hz,hr⟩:=ai0 (Φ:=Φ) hq t w (P:=P)
    refine⟨z,?_,by simpa[AR,CR]using hr⟩
    rw[aam (by simp) (by simp)]
    simpa using hz
  · split at h
    · simp only[Option.map_eq_some_iff]at h
      obtain⟨q,hq,rfl⟩:=h
      obtain⟨e1,e2,e4,e5⟩:=am4 hq hx hy w
      refine⟨.bool q,?_,by simp[AR,CR,FVR]⟩
      rw[e2,e4]
      simp[e1]
    · simp only[Option.map_eq_some_iff]at h
      obtain⟨q,hq,rfl⟩:=h
      obtain⟨e1,e2,e4,e5⟩:=am4 hq hx hy w
      refine⟨.bool (!q),?_,by simp[AR,CR,FVR]⟩
      rw[e2,e5]
      simp[e1]
    · cases h
theorem ao7{op:UnOp}{x r:A}{v:Value}(h:unA op x=some r)(hx:AR Φ ρ H x v)(w:World) :
    ∃ z,(Op.unary op v).run P w = .ok z w/\AR Φ ρ H r z:=by
  unfold unA at h
  split at h
  · simp only[AR,CR,FVR]at hx;subst hx
    split at h
    · cases h;exact⟨_,by simp[Op.unary,Op.intArith];rfl,by simp[AR,CR,FVR]⟩
    · cases h;exact⟨_,by simp[Op.unary,Op.intBits];rfl,by simp[AR,CR,FVR]⟩
    · cases h
  · simp only[AR,CR,FVR]at hx;subst hx
    split at h
    · cases h;exact⟨_,by simp[Op.unary];rfl,by simp[AR,CR,FVR]⟩
    · cases h
  · cases h
theorem amh{src dst:TypeId}{x r:A}{v:Value}(h:convA P src dst x=some r)(hx:AR Φ ρ H x v)(w:World) :
    ∃ z,(convert src dst v).run P w = .ok z w/\AR Φ ρ H r z:=by
  unfold convA at h
  split at h
  · rename_i d _ _ _ hs hd
    simp only[AR,CR,FVR]at hx;subst hx
    cases h
    refine⟨_,?_,by simp[AR,CR,FVR];rfl⟩
    simp only[convert,Sem.run_bind,aaf hs,aaf hd,Result.andThen_ok]
    cases d <;> rfl
  · rename_i d _ _ hs hd
    simp only[AR,CR,FVR]at hx;subst hx
    cases h
    refine⟨_,?_,by simp[AR,CR,FVR];rfl⟩
    simp only[convert,Sem.run_bind,aaf hs,aaf hd,Result.andThen_ok]
    cases d <;> rfl
  · rename_i d _ hs hd
    simp only[AR,CR,FVR]at hx;subst hx
    cases h
    refine⟨_,?_,by simp[AR,CR,FVR];rfl⟩
    simp only[convert,Sem.run_bind,aaf hs,aaf hd,Result.andThen_ok]
    cases d <;> rfl
  · cases h
theorem ad3{t:TypeId}{f:Nat}{fd:Field}(h:afz P t f=some fd):∃ fs,P.underlying t=some (.struct fs)/\fs[f]?=some fd:=by
  unfold afz at h
  split at h
  · rename_i fs hu;exact⟨fs,hu,h⟩
  · cases h
theorem addr_add(c off n:Nat):(⟨c,off,none⟩:Addr).add n=⟨c,off+n,none⟩:=by
  unfold Addr.add;split
  · rename_i h;simp[h]
  · rfl
theorem agj{l:List FV}{g:Nat->Option Value}{off n:Nat}(h:FVRs Φ l g off):FVRs Φ (l.drop n) g (off+n):=by
  refine abf.2 λi x hi=>?_
  rw[List.getElem?_drop]at hi
  have:=aaU h hi
  rwa[<-Nat.add_assoc]at this
theorem aeO{t:TypeId}{f:Nat}{x r:A}{v:Value}(h:ac9 P t x f=some r)(hx:AR Φ ρ H x v)(w:World) :
    ∃ z,(Instr.fieldAt t v f).run P w = .ok z w/\AR Φ ρ H r z:=by
  unfold ac9 at h
  split at h
  · rename_i fd hf
    obtain⟨fs,hu,hfd⟩:=ad3 hf
    split at h
    · rename_i n hn
      split at h
      · rename_i cs
        split at h
        · cases h
          simp only[AR,CR,FVR]at hx
          obtain⟨c,off,arr,rfl,h1,h2⟩:=hx
          refine⟨.pointer (some ((⟨c,off,none⟩:Addr).add fd.offset)),?_,?_⟩
          · simp only[Instr.fieldAt,Sem.run_bind,aaf hu,Result.andThen_ok,hfd,Instr.sureAddr,Sem.run_pure,fieldPlace,aas hn]
            simp
          · simp only[AR,CR,FVR,addr_add]
            exact⟨c,_,arr,rfl,h1,agj h2⟩
        · cases h
      · rename_i b sz i o
        cases h
        simp only[AR,CR]at hx
        obtain⟨p,rfl,hb,h1⟩:=hx
        refine⟨.pointer (some (p.add fd.offset)),?_,?_⟩
        · simp only[Instr.fieldAt,Sem.run_bind,aaf hu,Result.andThen_ok,hfd,Instr.sureAddr,Sem.run_pure,fieldPlace,aas hn]
          simp
        · simp only[AR,CR]
          refine⟨_,rfl,hb,λk hk=>?_⟩
          obtain⟨h2,inf,h3,rfl⟩:=h1 k hk
          exact⟨h2,inf,h3,by rw[addr_add];simp only[Nat.add_assoc]⟩
      · cases h
    · cases h
  · cases h
theorem ajS{t:TypeId}{f:Nat}{x r:A}{v:Value}(h:akr P t x f=some r)(hx:AR Φ ρ H x v)(w:World) :
    ∃ z,(Instr.field t v f).run P w = .ok z w/\AR Φ ρ H r z:=by
  unfold akr at h
  split at h
  · rename_i fd hf
    obtain⟨fs,hu,hfd⟩:=ad3 hf
    split at h
    · rename_i g n hg hn
      split at h
      · simp only[AR]at hx
        obtain⟨arr,rfl,h1,h2⟩:=hx
        obtain⟨z,hz,hr⟩:=aiU (ρ:=ρ) (H:=H) hg hn h h1 h2 w
        refine⟨z,?_,hr⟩
        simp only[Instr.field,Sem.run_bind,aaf hu,Result.andThen_ok,hfd,asAgg,Sem.run_pure]
        exact hz
      · simp only[AR]at hx
        obtain⟨arr,rfl,h1,h2⟩:=hx
        obtain⟨z,hz,hr⟩:=aiU (ρ:=ρ) (H:=H) hg hn h h1 h2 w
        refine⟨z,?_,hr⟩
        simp only[Instr.field,Sem.run_bind,aaf hu,Result.andThen_ok,hfd,asAgg,Sem.run_pure]
        exact hz
      · cases h
    · cases h
  · cases h
end Go.Ev
namespace Go.Ev
variable[Glo]
set_option linter.unusedSimpArgs false
variable{P:Program}{Φ:Phi}{ρ:Rho}{H:Heap}{s:List A}{a:Act}
theorem aa2{t e:TypeId}(h:aen P t=some e):P.underlying t=some (.slice e):=by
  unfold aen at h
  split at h
  · rename_i hu;cases h;exact hu
  · cases h
theorem afk{t:TypeId}{x ix r:A}{v u:Value}(h:indexAddrA P t x ix=some r)(hx:AR Φ ρ H x v)(hi:AR Φ ρ H ix u)(w:World) :
    ∃ z,(Instr.indexAt t v u).run P w = .ok z w/\AR Φ ρ H r z:=by
  unfold indexAddrA at h
  split at h
  · rename_i e k n he
    have hu:=aa2 he
    simp only[AR,CR,FVR]at hi;subst hi
    split at h
    · rename_i sz' sz els cap hsz
      split at h
      · rename_i hc
        obtain⟨rfl,hn⟩:=hc
        split at h
        · rename_i cs hcs
          cases h
          simp only[AR,CR,FVR]at hx
          obtain⟨p,kk,rfl,h1,h0,h2⟩:=hx
          have hlt:n.toNat<els.length:=(List.getElem?_eq_some_iff.1 hcs).1
          rcases h2 with h2 | ⟨c,off,arr,rfl,h3,h4⟩
          · subst h2;simp at hlt
          · refine⟨.pointer (some ((⟨c,off,none⟩:Addr).add (n.toNat*sz'))),?_,?_⟩
            · simp only[Instr.indexAt,asIntOf,Sem.run_bind,Sem.run_pure,aaf hu,Result.andThen_ok]
              rw[if_pos (by omega)]
              simp[aas hsz]
            · simp only[AR,CR,FVR,addr_add]
              exact⟨c,_,arr,rfl,h3,((aaA.1 h4) _ _ hcs).2⟩
        · cases h
      · cases h
    · rename_i sz' b sz i m cap hsz
      split at h
      · rename_i hc
        subst hc
        split at h
        · rename_i hn
          cases h
          simp only[AR,CR]at hx
          obtain⟨p,kk,rfl,h1,hp,hb,h2⟩:=hx
          cases p with
          | none=>exact absurd rfl (hp (by omega))
          | some ad=>
            refine⟨.pointer (some (ad.add (n.toNat*sz'))),?_,?_⟩
            · simp only[Instr.indexAt,asIntOf,Sem.run_bind,Sem.run_pure,aaf hu,Result.andThen_ok]
              rw[if_pos (by omega)]
              simp[aas hsz]
            · simp only[AR,CR]
              refine⟨_,rfl,hb,λk hk=>?_⟩
              obtain⟨h3,h4,h5,h6⟩:=h2 k hk
              refine⟨h3,?_⟩
              rcases h6 with h6 | ⟨inf,h6,h7,h8⟩
              · omega
              · refine⟨inf,h6,?_⟩
                cases h7
                rw[addr_add]
                simp only[Nat.add_mul,Nat.add_assoc,Nat.add_zero]
        · cases h
      · cases h
    · rename_i sz' b sz m hsz
      split at h
      · rename_i hc
        subst hc
        split at h
        · rename_i hn
          cases h
          simp only[AR,CR]at hx
          obtain⟨p,kk,rfl,h1,hp,hb,h2⟩:=hx
          cases p with
          | none=>exact absurd rfl (hp (by omega))
          | some ad=>
            refine⟨.pointer (some (ad.add (n.toNat*sz'))),?_,?_⟩
            · simp only[Instr.indexAt,asIntOf,Sem.run_bind,Sem.run_pure,aaf hu,Result.andThen_ok]
              rw[if_pos (by omega)]
              simp[aas hsz]
            · simp only[AR,CR]
              refine⟨_,rfl,hb,λk hk=>?_⟩
              obtain⟨h3,h4,h6⟩:=h2 k hk
              refine⟨h3,?_⟩
              rcases h6 with h6 | ⟨inf,h6,h7,h8⟩
              · omega
              · refine⟨inf,h6,?_⟩
                cases h7
                rw[addr_add]
                simp
        · cases h
      · cases h
    · cases h
  · cases h
theorem akc{t:TypeId}{x ix r:A}{v u:Value}(h:indexA P t x ix=some r)(hx:AR Φ ρ H x v)(hi:AR Φ ρ H ix u)(w:World) :
    ∃ z,(Instr.index t v u).run P w = .ok z w/\AR Φ ρ H r z:=by
  unfold indexA at h
  split at h
  · rename_i str k n hu
    simp only[AR,CR,FVR]at hx hi;subst hx;subst hi
    split at h
    · rename_i hn
      split at h
      · rename_i b hb
        cases h
        refine⟨.int .u8 b.toNat,?_,by simp[AR,CR,FVR]⟩
        simp only[Instr.index,asIntOf,Sem.run_bind,Sem.run_pure,aaf hu,Result.andThen_ok,if_pos hn]
        rw[hb];rfl
      · cases h
    · cases h
  · cases h
theorem afa{x:A}{v:Value}{l:Nat}(h:natA x=some l)(hx:AR Φ ρ H x v):∃ k n,v = .int k n/\0<=n/\n.toNat=l:=by
  unfold natA at h
  split at h
  · split at h
    · cases h
      simp only[AR,CR,FVR]at hx
      exact⟨_,_,hx,‹_›,rfl⟩
    · cases h
  · cases h
theorem abc{k:IntKind}{n:Int}{l y:Nat}{c:BoundsCode}(h0:0<=n)(h1:n.toNat=l)(h2:l<=y)(w:World) :
    (Instr.sliceBound (.int k n) y c).run P w = .ok l w:=by
  simp only[Instr.sliceBound,asIntOf,Sem.run_bind,Sem.run_pure,Result.andThen_ok]
  rw[if_pos (by omega)]
  simp[h1]
theorem afL{lo hi mx:Option Operand}{len cap l h:Nat}{m:Option Nat}{isS:Bool}(hb:bnd s lo hi mx len=some (l,h,m))(hs:SR Φ ρ H s a.tmps)
    (h1:l<=h) (h2:h<=cap) (h3:∀ k,m=some k->h<=k/\k<=cap) (w:World) :
    (Instr.sliceBounds isS len cap (lo.map a.eval) (hi.map a.eval) (mx.map a.eval)).run P w = .ok (l,h,m.getD cap) w/\(mx=none↔m=none):=by
  unfold bnd at hb
  split at hb
  · rename_i l' h' hl hh
    have lo_run:∀ (y m':Nat) (c:BoundsCode),l'<=y->((match lo.map a.eval with
        | some v=>do let l <-Instr.sliceBound v y c;pure (l,y,m')
        | none=>do let l <-pure 0;pure (l,y,m'):Sem (Nat×Nat×Nat))).run P w = .ok (l',y,m') w:=by
      intro y m' c hy
      cases lo with
      | none=>simp at hl;subst hl;rfl
      | some x=>
        obtain⟨k,n,e1,e2,e3⟩:=afa hl (aaN hs x)
        simp only[Option.map_some,e1,Sem.run_bind]
        rw[abc e2 e3 hy]
        rfl
    cases mx with
    | none=>
      simp only[Option.some.injEq,Prod.mk.injEq]at hb
      obtain⟨rfl,rfl,rfl⟩:=hb
      refine⟨?_,by simp⟩
      simp only[Instr.sliceBounds,Option.map_none,Sem.run_bind,Sem.run_pure,Result.andThen_ok,Option.getD_none]
      cases hi with
      | none=>
        simp at hh;subst hh
        simp only[Option.map_none,Sem.run_bind,Sem.run_pure,Result.andThen_ok,Option.isSome_none,Bool.false_eq_true,if_false]
        exact lo_run _ _ _ h1
      | some x=>
        obtain⟨k,n,e1,e2,e3⟩:=afa hh (aaN hs x)
        simp only[Option.map_some,e1,Sem.run_bind]
        rw[abc e2 e3 h2]
        simp only[Result.andThen_ok,Option.isSome_none,Bool.false_eq_true,if_false]
        exact lo_run _ _ _ h1
    | some xm=>
      cases hi with
      | none=>cases hb
      | some x=>
        simp only[Option.map_eq_some_iff,Prod.mk.injEq]at hb
        obtain⟨m',hm,rfl,rfl,rfl⟩:=hb
        obtain⟨g1,g2⟩:=h3 m' rfl
        refine⟨?_,by simp⟩
        obtain⟨k,n,e1,e2,e3⟩:=afa hh (aaN hs x)
        obtain⟨k',n',f1,f2,f3⟩:=afa hm (aaN hs xm)
        simp only[Instr.sliceBounds,Option.map_some,e1,f1,Sem.run_bind]
        rw[abc f2 f3 g2]
        simp only[Result.andThen_ok,Sem.run_bind]
        rw[abc e2 e3 g1]
        simp only[Result.andThen_ok,Option.isSome_some,if_true]
        exact lo_run _ _ _ h1
  · cases hb
theorem abq{t e:TypeId}(hu:P.underlying t=some (.slice e))(x:Value)(lo hi mx:Option Value)(w:World) :
    (Instr.sliceAt t x lo hi mx).run P w=(Instr.slice t x lo hi mx).run P w:=by
  simp only[Instr.sliceAt,Sem.run_bind,aaf hu,Result.andThen_ok]
theorem akI{t:TypeId}{x r:A}{v:Value}{lo hi mx:Option Operand}(h:ady P t s x lo hi mx=some r)(hs:SR Φ ρ H s a.tmps)(hx:AR Φ ρ H x v)(w:World) :
    ∃ z,(Instr.sliceAt t v (lo.map a.eval) (hi.map a.eval) (mx.map a.eval)).run P w = .ok z w/\AR Φ ρ H r z:=by
  unfold ady at h
  split at h
  · rename_i str hu
    simp only[AR,CR,FVR]at hx;subst hx
    split at h
    · rename_i l h' hb
      split at h
      · rename_i hc
        cases h
        obtain⟨e1,e2⟩:=afL (P:=P) (isS:=false) hb hs hc.1 hc.2 (by simp) w
        refine⟨.string (str.extract l h'),?_,by simp[AR,CR,FVR]⟩
        simp only[Instr.sliceAt,Instr.slice,Sem.run_bind,aaf hu,Result.andThen_ok]
        have:mx=none:=e2.2 rfl
        subst this
        simp only[Option.map_none,Option.isSome_none,Bool.false_eq_true,if_false,Sem.run_pure,Sem.run_bind,Result.andThen_ok]
        simp only[Option.map_none]at e1
        rw[e1];rfl
      · cases h
    · cases h
  · rename_i e sz els cap hu
    simp only[AR,CR,FVR]at hx
    obtain⟨p,k,rfl,hk,h0,hp⟩:=hx
    have run_:∀ {sz' l h':Nat}{m:Option Nat},szOf P e=some sz'->bnd s lo hi mx els.length=some (l,h',m)->l<=h'->h'<=els.length->(∀ q,m=some q->h'<=q/\q<=k) →
        (Instr.sliceAt t (.slice p els.length k) (lo.map a.eval) (hi.map a.eval) (mx.map a.eval)).run P w = .ok (.slice (if m.getD k=l then p else p.map (·.add (l*sz'))) (h'-l) (m.getD k-l)) w:=by
      intro sz' l h' m hsz hb c1 c2 c3
      obtain⟨e1,e2⟩:=afL (P:=P) (isS:=true) hb hs c1 (Nat.le_trans c2 hk.1) c3 w
      rw[abq hu]
      simp only[Instr.slice,Sem.run_bind,aaf hu,Result.andThen_ok]
      rw[e1]
      simp only[Sem.run_bind,Result.andThen_ok,aas hsz]
      rfl
    have rel_:∀ {sz' l h':Nat}{m cap':Option Nat},(sz'=sz∨sz=0)->l<=h'->h'<=els.length->(∀ q,m=some q->h'<=q/\q<=k)->ajB cap' (h'-l) (m.getD k-l)->(cap'≠none->cap≠none∨0<els.length) →
        AR Φ ρ H (.c (.v (.sl sz ((els.take h').drop l) cap'))) (.slice (if m.getD k=l then p else p.map (·.add (l*sz'))) (h'-l) (m.getD k-l)):=by
      intro sz' l h' m cap' hz c1 c2 c3 c4 c5
      simp only[AR,CR,FVR]
      have hlen:((els.take h').drop l).length=h'-l:=by simp;omega
      refine⟨_,_,by rw[hlen],by rw[hlen];exact c4,⟨λhz0=>by simp[h0.1 hz0],λhn=>?_⟩,?_⟩
      · have hpn:(if m.getD k=l then p else p.map (·.add (l*sz')))=none↔p=none:=by split <;> simp
        rw[hpn]
        rcases c5 hn with h | h
        · exact h0.2 h
        · rcases hp with hp | ⟨c,off,arr,rfl,_⟩
          · simp[hp]at h
          · constructor
            · intro hh;cases hh
            · intro hh;simp[h0.1 hh]at h
      rcases hp with hp | ⟨c,off,arr,rfl,h3,h4⟩
      · left;simp[hp]
      · by_cases hml:m.getD k=l
        · left
          have hge:h'<=m.getD k:=by
            cases m with
            | none=>simpa using Nat.le_trans c2 hk.1
            | some q=>simpa using (c3 q rfl).1
          exact List.eq_nil_of_length_eq_zero (by omega)
        · by_cases hz0:sz=0
          · left;simp[h0.1 hz0]
          · right
            have hz':sz'=sz:=hz.resolve_right hz0
            subst hz'
            refine⟨c,off+l*sz',arr,by simp[hml,addr_add],h3,aaA.2 λi q hq=>?_⟩
            rw[List.getElem?_drop,List.getElem?_take]at hq
            split at hq
            · have:=(aaA.1 h4) _ _ hq
              rwa[Nat.add_mul,<-Nat.add_assoc]at this
            · cases hq
    split at h
    · rename_i sz' l h' m hsz hb
      split at h
      · rename_i hc
        obtain⟨hz,c1,c2⟩:=hc
        split at h
        · cases h
          refine⟨_,run_ hsz hb c1 c2 (by simp),?_⟩
          exact rel_ (m:=none) hz c1 c2 (by simp) ⟨by simp only[Option.getD_none];have:=hk.1;omega,λq hq=>by
            cases hcap:cap with
            | none=>simp[hcap]at hq
            | some c=>simp[hcap]at hq;have:=hk.2 c hcap;simp;omega⟩ (λhn=>.inl (by cases cap <;> simp_all))
        · rename_i q
          split at h
          · rename_i hc
            cases h
            have hq:∀ q',some q=some q'->h'<=q'/\q'<=k:=λq' hq'=>by cases hq';have:=hk.1;omega
            refine⟨_,run_ hsz hb c1 c2 hq,?_⟩
            exact rel_ (m:=some q) hz c1 c2 hq ⟨by simp;omega,λq' hq'=>by simp at hq' ⊢;omega⟩ (λ_=>hc.2.2)
          · cases h
      · cases h
    · cases h
  · rename_i e b sz i n cap hu
    simp only[AR,CR]at hx
    obtain⟨p,k,rfl,hk,hpn,hbl,hp⟩:=hx
    have run_:∀ {l h':Nat}{m:Option Nat},szOf P e=some sz->bnd s lo hi mx n=some (l,h',m)->l<=h'->h'<=n->(∀ q,m=some q->h'<=q/\q<=k) →
        (Instr.sliceAt t (.slice p n k) (lo.map a.eval) (hi.map a.eval) (mx.map a.eval)).run P w = .ok (.slice (if m.getD k=l then p else p.map (·.add (l*sz))) (h'-l) (m.getD k-l)) w:=by
      intro l h' m hsz hb c1 c2 c3
      obtain⟨e1,e2⟩:=afL (P:=P) (isS:=true) hb hs c1 (Nat.le_trans c2 hk.1) c3 w
      rw[abq hu]
      simp only[Instr.slice,Sem.run_bind,aaf hu,Result.andThen_ok]
      rw[e1]
      simp only[Sem.run_bind,Result.andThen_ok,aas hsz]
      rfl
    have rel_:∀ {l h':Nat}{m cap':Option Nat},l<=h'->h'<=n->(∀ q,m=some q->h'<=q/\q<=k)->ajB cap' (h'-l) (m.getD k-l)->(cap'=none->cap=none/\m=none)->(cap'≠none->cap≠none∨0<n) →
        AR Φ ρ H (.c (.sl b sz (i+l) (h'-l) cap')) (.slice (if m.getD k=l then p else p.map (·.add (l*sz))) (h'-l) (m.getD k-l)):=by
      intro l h' m cap' c1 c2 c3 c4 c5 c6
      simp only[AR,CR]
      have hge:h'<=m.getD k:=by
        cases m with
        | none=>simpa using Nat.le_trans c2 hk.1
        | some q=>simpa using (c3 q rfl).1
      have hle:m.getD k<=k:=by
        cases m with
        | none=>simp
        | some q=>simpa using (c3 q rfl).2
      refine⟨_,_,rfl,c4,λh0=>?_,hbl,λx hxl=>?_⟩
      · have:=hpn (by rcases h0 with h0 | h0;exact .inl (by omega);exact(c6 h0).symm)
        cases p with
        | none=>exact absurd rfl this
        | some ad=>split <;> simp
      · obtain⟨g1,g2,g3,g4⟩:=hp x hxl
        refine⟨g1,by omega,λhn=>?_,?_⟩
        · obtain⟨h6,h7⟩:=c5 hn
          subst h7
          have:=g3 h6
          simp;omega
        · by_cases hml:m.getD k=l
          · left;omega
          · right
            rcases g4 with⟨g4,g5⟩ | ⟨inf,g4,g5,g6⟩
            · omega
            · refine⟨inf,g4,?_,?_⟩
              · simp[hml,g5,addr_add,Nat.add_mul,Nat.add_assoc]
              · have:(i+l+(m.getD k-l))*sz<=(i+k)*sz:=Nat.mul_le_mul_right _ (by omega)
                omega
    split at h
    · rename_i sz' l h' m hsz hb
      split at h
      · rename_i hc
        obtain⟨rfl,c1,c2⟩:=hc
        split at h
        · cases h
          refine⟨_,run_ hsz hb c1 c2 (by simp),?_⟩
          exact rel_ (m:=none) c1 c2 (by simp) ⟨by simp only[Option.getD_none];have:=hk.1;omega,λq hq=>by
            cases hcap:cap with
            | none=>simp[hcap]at hq
            | some c=>simp[hcap]at hq;have:=hk.2 c hcap;simp;omega⟩ (λhn=>⟨by cases cap <;> simp_all,rfl⟩) (λhn=>.inl (by cases cap <;> simp_all))
        · rename_i q
          split at h
          · rename_i hc
            cases h
            have hq:∀ q',some q=some q'->h'<=q'/\q'<=k:=λq' hq'=>by cases hq';have:=hk.1;omega
            refine⟨_,run_ hsz hb c1 c2 hq,?_⟩
            exact rel_ (m:=some q) c1 c2 hq ⟨by simp;omega,λq' hq'=>by simp at hq' ⊢;omega⟩ (λhn=>by cases hn) (λ_=>hc.2.2)
          · cases h
      · cases h
    · cases h
  · rename_i e b sz n hu
    simp only[AR,CR]at hx
    obtain⟨p,k,rfl,hk,hpn,hbl,hp⟩:=hx
    have run_:∀ {l h':Nat}{m:Option Nat},szOf P e=some sz->bnd s lo hi mx n=some (l,h',m)->l<=h'->h'<=n->(∀ q,m=some q->h'<=q/\q<=k) →
        (Instr.sliceAt t (.slice p n k) (lo.map a.eval) (hi.map a.eval) (mx.map a.eval)).run P w = .ok (.slice (if m.getD k=l then p else p.map (·.add (l*sz))) (h'-l) (m.getD k-l)) w:=by
      intro l h' m hsz hb c1 c2 c3
      obtain⟨e1,e2⟩:=afL (P:=P) (isS:=true) hb hs c1 (Nat.le_trans c2 hk) c3 w
      rw[abq hu]
      simp only[Instr.slice,Sem.run_bind,aaf hu,Result.andThen_ok]
      rw[e1]
      simp only[Sem.run_bind,Result.andThen_ok,aas hsz]
      rfl
    have rel_:∀ {l h':Nat}{m cap':Option Nat},l<=h'->h'<=n->(∀ q,m=some q->h'<=q/\q<=k)->ajB cap' (h'-l) (m.getD k-l)->(cap'=none->m=none)->(cap'≠none->0<n) →
        AR Φ ρ H (.c (.sl b sz l (h'-l) cap')) (.slice (if m.getD k=l then p else p.map (·.add (l*sz))) (h'-l) (m.getD k-l)):=by
      intro l h' m cap' c1 c2 c3 c4 c5 c6
      simp only[AR,CR]
      have hge:h'<=m.getD k:=by
        cases m with
        | none=>simpa using Nat.le_trans c2 hk
        | some q=>simpa using (c3 q rfl).1
      have hle:m.getD k<=k:=by
        cases m with
        | none=>simp
        | some q=>simpa using (c3 q rfl).2
      refine⟨_,_,rfl,c4,λh0=>?_,hbl,λx hxl=>?_⟩
      · have:=hpn (by rcases h0 with h0 | h0;omega;exact c6 h0)
        cases p with
        | none=>exact absurd rfl this
        | some ad=>split <;> simp
      · obtain⟨g1,g2,g4⟩:=hp x hxl
        refine⟨g1,by omega,λhn=>?_,?_⟩
        · have h7:=c5 hn
          subst h7
          simp;omega
        · by_cases hml:m.getD k=l
          · left;omega
          · right
            rcases g4 with⟨g4,g5⟩ | ⟨inf,g4,g5,g6⟩
            · omega
            · refine⟨inf,g4,?_,?_⟩
              · simp[hml,g5,addr_add]
              · have:(l+(m.getD k-l))*sz<=k*sz:=Nat.mul_le_mul_right _ (by omega)
                omega
    split at h
    · rename_i sz' l h' m hsz hb
      split at h
      · rename_i hc
        obtain⟨rfl,c1,c2⟩:=hc
        split at h
        · cases h
          refine⟨_,run_ hsz hb c1 c2 (by simp),?_⟩
          exact rel_ (m:=none) c1 c2 (by simp) ⟨by simp only[Option.getD_none];omega,λq hq=>by cases hq⟩ (λ_=>rfl) (λhn=>absurd rfl hn)
        · rename_i q
          split at h
          · rename_i hc
            cases h
            have hq:∀ q',some q=some q'->h'<=q'/\q'<=k:=λq' hq'=>by cases hq';omega
            refine⟨_,run_ hsz hb c1 c2 hq,?_⟩
            exact rel_ (m:=some q) c1 c2 hq ⟨by simp;omega,λq' hq'=>by simp at hq' ⊢;omega⟩ (λhn=>by cases hn) (λ_=>hc.2.2)
          · cases h
      · cases h
    · cases h
  · cases h
end Go.Ev
namespace Go.Ev
variable[Glo]
set_option linter.unusedSimpArgs false
variable{P:Program}{Φ:Phi}{ρ:Rho}{H:Heap}{s:List A}{a:Act}
theorem CL.put_c(cl:CL)(off:Nat)(x:CL):(cl.put off x).c=cl.c.take off++x.c++cl.c.drop (off+x.len):=by
  cases cl <;> cases x <;> simp[CL.put,CL.c,CL.len,List.map_take,List.map_drop]
theorem CL.put_len{cl:CL}{off:Nat}{x:CL}(h:off+x.len<=cl.len):(cl.put off x).len=cl.len:=by
  rw[<-CL.c_len,CL.put_c]
  simp only[List.length_append,List.length_take,List.length_drop,CL.c_len]
  omega
theorem aes{L X:List C}{g g2 g':Nat->Option Value}{b off b2:Nat}(hL:CRs Φ ρ H L g b)(hX:CRs Φ ρ H X g2 b2)(ho:off+X.length<=L.length)
    (h1:∀ j,j<X.length->g' (b+off+j)=g2 (b2+j)) (h2:∀ j,j<L.length->(j<off∨off+X.length<=j)->g' (b+j)=g (b+j)) :
    CRs Φ ρ H (L.take off++X++L.drop (off+X.length)) g' b:=by
  refine CRs_iff.2 λi x hi=>?_
  rw[List.append_assoc,List.getElem?_append]at hi
  split at hi
  · rename_i hlt
    rw[List.getElem?_take]at hi
    split at hi
    · obtain⟨v,hv,hr⟩:=aaz hL hi
      exact⟨v,by rw[h2 i (by simp at hlt;omega) (by omega)];exact hv,hr⟩
    · cases hi
  · rename_i hge
    simp only[List.length_take]at hge hi
    rw[Nat.min_eq_left (by omega)]at hge hi
    rw[List.getElem?_append]at hi
    split at hi
    · rename_i hlt
      obtain⟨v,hv,hr⟩:=aaz hX hi
      refine⟨v,?_,hr⟩
      have:=h1 (i-off) (by omega)
      rw[show b+off+(i-off)=b+i from by omega]at this
      rw[this];exact hv
    · rename_i hge2
      rw[List.getElem?_drop]at hi
      obtain⟨v,hv,hr⟩:=aaz hL hi
      have hlt:off+X.length+(i-off-X.length)<L.length:=(List.getElem?_eq_some_iff.1 hi).1
      rw[show off+X.length+(i-off-X.length)=i from by omega]at hlt hv
      exact⟨v,by rw[h2 i hlt (by omega)];exact hv,hr⟩
theorem agE:∀ (l:List Value) (k off:Nat) (arr:Array Value),
    ((l.zipIdx k).foldl (λ(cs:Array Value) (x:Value×Nat)=>cs.setIfInBounds (off+x.2) x.1) arr).size=arr.size ∧
    ∀ i,((l.zipIdx k).foldl (λ(cs:Array Value) (x:Value×Nat)=>cs.setIfInBounds (off+x.2) x.1) arr)[i]? =
      if off+k<=i/\i<off+k+l.length/\i<arr.size then l[i-off-k]? else arr[i]?
  | [],k,off,arr=>by
    refine⟨rfl,λi=>?_⟩
    simp only[List.zipIdx_nil,List.foldl_nil]
    rw[if_neg]
    simp only[List.length_nil];omega
  | v::l,k,off,arr=>by
    obtain⟨h1,h2⟩:=agE l (k+1) off (arr.setIfInBounds (off+k) v)
    simp only[List.zipIdx_cons,List.foldl_cons]
    refine⟨by rw[h1];simp,λi=>?_⟩
    rw[h2]
    simp only[Array.size_setIfInBounds,List.length_cons]
    by_cases hi:i=off+k
    · subst hi
      by_cases hs:off+k<arr.size
      · rw[if_neg (by omega),if_pos (by omega)]
        simp[hs]
      · rw[if_neg (by omega),if_neg (by omega)]
        simp[hs]
    · by_cases hc:off+(k+1)<=i/\i<off+(k+1)+l.length/\i<arr.size
      · rw[if_pos hc,if_pos (by omega)]
        obtain⟨m,hm⟩:∃ m,i-off-k=m+1:=⟨i-off-k-1,by omega⟩
        rw[hm,List.getElem?_cons_succ]
        congr 1;omega
      · rw[if_neg hc,if_neg (by omega),Array.getElem?_setIfInBounds_ne (by omega)]
theorem ahS{place:Nat->Option (Nat×Nat)}:∀ {parts:List (Nat×A)}{vs:List (Nat×Value)}{acc cl:CL}{arr:Array Value},akh place acc parts=some cl →
    parts.map (·.1)=vs.map (·.1)->(∀ (i:Nat) (p:Nat×A),parts[i]?=some p->∃ q,vs[i]?=some q/\AR Φ ρ H p.2 q.2)->arr.size=acc.len->CLR Φ ρ H acc (arr[·]?) 0 →
    ∃ arr',Instr.fill place arr vs=some arr'/\arr'.size=cl.len/\CLR Φ ρ H cl (arr'[·]?) 0
  | [],vs,acc,cl,arr,h,hi,hr,hs,hc=>by
    simp only[akh]at h;cases h
    cases vs with
    | nil=>exact⟨arr,rfl,hs,hc⟩
    | cons=>simp at hi
  | (i,x)::r,vs,acc,cl,arr,h,hi,hr,hs,hc=>by
    cases vs with
    | nil=>simp at hi
    | cons q vs=>
      obtain⟨i',v⟩:=q
      simp only[List.map_cons,List.cons.injEq]at hi
      obtain⟨rfl,hi⟩:=hi
      simp only[akh]at h
      split at h
      · rename_i off n cx hp hx
        split at h
        · rename_i hle
          obtain⟨q,hq,hxv⟩:=hr 0 (i,x) rfl
          simp at hq;subst hq
          obtain⟨e1,e2⟩:=ab5 hx hxv
          simp only at e1 e2
          have hfs:=agE v.cells.toList 0 off arr
          have:=ahS (arr:=v.cells.zipIdx.foldl (λcs (c,j)=>cs.setIfInBounds (off+j) c) arr) (vs:=vs) h hi
            (λj p hp=>by simpa using hr (j+1) p (by simpa using hp)) ?_ ?_
          · obtain⟨arr',g1,g2,g3⟩:=this
            refine⟨arr',?_,g2,g3⟩
            simp only[Instr.fill,hp]
            rw[if_neg]
            · exact g1
            · simp only[Bool.or_eq_true,bne_iff_ne,decide_eq_true_eq,ne_eq]
              simp[e1];omega
          · rw[<-Array.foldl_toList,Array.toList_zipIdx]
            rw[hfs.1,hs,CL.put_len (by omega)]
          · rw[<-Array.foldl_toList,Array.toList_zipIdx]
            rw[CLR_c,CL.put_c]
            rw[CLR_c]at hc e2
            rw[<-CL.c_len cx]
            refine aes (b:=0) hc e2 (by rw[CL.c_len,CL.c_len];omega) ?_ ?_
            · intro j hj
              rw[CL.c_len]at hj
              rw[hfs.2]
              rw[if_pos (by simp;omega)]
              simp
            · intro j hj ho
              rw[CL.c_len]at hj ho
              rw[hfs.2]
              rw[if_neg (by simp;omega)]
        · cases h
      · cases h
theorem ahy{α β:Type}{f:α->Sem β}{w:World}:∀ {l:List α}{r:List β},l.length=r.length->(∀ (i:Nat) (x:α) (y:β),l[i]?=some x->r[i]?=some y->(f x).run P w = .ok y w)->(l.mapM f).run P w = .ok r w
  | [],r,h,_=>by
    cases r with
    | nil=>rfl
    | cons=>simp at h
  | x::l,r,h,hf=>by
    cases r with
    | nil=>simp at h
    | cons y r=>
      simp only[List.mapM_cons,Sem.run_bind]
      rw[hf 0 x y rfl rfl]
      simp only[Result.andThen_ok]
      rw[ahy (r:=r) (by simpa using h) (λi a b ha hb=>hf (i+1) a b (by simpa using ha) (by simpa using hb))]
      rfl
theorem abS{t:TypeId}{z:List FV}(h:acn P t=some z):∃ v,(∀ w,(zeroValue t).run P w = .ok v w)/\v.cells.size=z.length/\FVRs Φ z (v.cells[·]?) 0:=by
  unfold acn at h
  split at h
  · rename_i v hv
    simp only[Option.bind_eq_some_iff]at hv
    obtain⟨i,hi,hz⟩:=hv
    obtain⟨e1,e2⟩:=abx h
    refine⟨v,λw=>by simp[zeroValue,typeInfo,hi,hz],by simpa using e1,abf.2 λj x hj=>?_⟩
    obtain⟨u,hu,hx⟩:=e2 j x hj
    exact⟨u,by simpa using hu,ac2 hx⟩
  · cases h
theorem ajj{t:TypeId}{parts:List (Nat×A)}{r:A}{vs:Array (Nat×Value)}(h:ajm P t parts=some r)(h1:parts.map (·.1)=vs.toList.map (·.1))
    (h2:∀ (i:Nat) (p:Nat×A),parts[i]?=some p->∃ q,vs.toList[i]?=some q/\AR Φ ρ H p.2 q.2) (w:World) :
    ∃ z,(Instr.build t vs).run P w = .ok z w/\AR Φ ρ H r z:=by
  unfold ajm at h
  split at h
  · rename_i z pl hz hpl
    simp only[Option.map_eq_some_iff]at h
    obtain⟨cl,hcl,rfl⟩:=h
    unfold akW at hpl
    split at hpl
    · rename_i fs hu
      simp only[Option.map_eq_some_iff]at hpl
      obtain⟨l,hl,rfl⟩:=hpl
      obtain⟨zv,hzv,hz1,hz2⟩:=abS (Φ:=Φ) hz
      obtain⟨arr',g1,g2,g3⟩:=ahS (acc:=.p z) (arr:=zv.cells) (vs:=vs.toList) hcl h1 h2 hz1 hz2
      obtain⟨e1,e2⟩:=abx hl
      have hm:(fs.mapM λf=>do pure (f.offset,<-sizeOf f.type):Sem (Array (Nat×Nat))).run P w = .ok l.toArray w:=by
        rw[Array.mapM_eq_mapM_toList,Sem.run_map]
        rw[ahy (r:=l) e1]
        · rfl
        · intro i x y hx hy
          obtain⟨x',hx',hs⟩:=e2 i y hy
          rw[hx]at hx';cases hx'
          simp only[Option.map_eq_some_iff]at hs
          obtain⟨n,hn,rfl⟩:=hs
          simp only[Sem.run_bind,aas hn,Result.andThen_ok];rfl
      refine⟨.agg arr',?_,?_⟩
      · simp only[Instr.build,Sem.run_bind,hzv,Result.andThen_ok,aaf hu]
        rw[hm]
        simp only[Result.andThen_ok]
        have:(λi=>l.toArray[i]?)=λi:Nat=>l[i]?:=by funext i;simp
        rw[this,g1]
        rfl
      · cases cl with
        | p l=>simp only[CL.agg,AR];exact⟨_,rfl,g2,g3⟩
        | m l=>simp only[CL.agg,AR];exact⟨_,rfl,g2,g3⟩
    · cases hpl
  · cases h
theorem ans{t:TypeId}{x r:A}{v:Value}(h:lenT P t x=some r)(hx:AR Φ ρ H x v)(ty:TypeId)(ts:Array TypeId)(rest:Array Value)(ht:ts[0]?=some t)(hr:rest[0]?=some v)(w:World) :
    ∃ z,(Builtin.len_ ts ty rest).run P w = .ok z w/\AR Φ ρ H r z:=by
  unfold lenT at h
  split at h
  · rename_i hu;cases h
    simp only[AR,CR,FVR]at hx;subst hx
    refine⟨_,?_,by simp[AR,CR,FVR];rfl⟩
    simp[Builtin.len_,ht,hr,aaf hu,goInt]
  · rename_i hu;cases h
    simp only[AR,CR,FVR]at hx
    obtain⟨p,k,rfl,_⟩:=hx
    refine⟨_,?_,by simp[AR,CR,FVR];rfl⟩
    simp[Builtin.len_,ht,hr,aaf hu,goInt]
  · rename_i hu;cases h
    simp only[AR,CR]at hx
    obtain⟨p,k,rfl,_⟩:=hx
    refine⟨_,?_,by simp[AR,CR,FVR];rfl⟩
    simp[Builtin.len_,ht,hr,aaf hu,goInt]
  · rename_i hu;cases h
    simp only[AR,CR]at hx
    obtain⟨p,k,rfl,_⟩:=hx
    refine⟨_,?_,by simp[AR,CR,FVR];rfl⟩
    simp[Builtin.len_,ht,hr,aaf hu,goInt]
  · cases h
theorem anU{t:TypeId}{x r:A}{v:Value}(h:capT P t x=some r)(hx:AR Φ ρ H x v)(ty:TypeId)(ts:Array TypeId)(rest:Array Value)(ht:ts[0]?=some t)(hr:rest[0]?=some v)(w:World) :
    ∃ z,(Builtin.cap_ ts ty rest).run P w = .ok z w/\AR Φ ρ H r z:=by
  unfold capT at h
  split at h
  · rename_i hu;cases h
    simp only[AR,CR,FVR]at hx
    obtain⟨p,k,rfl,hk,_⟩:=hx
    have:=hk.2 _ rfl;subst this
    refine⟨_,?_,by simp[AR,CR,FVR];rfl⟩
    simp[Builtin.cap_,ht,hr,aaf hu,goInt]
  · rename_i hu;cases h
    simp only[AR,CR]at hx
    obtain⟨p,k,rfl,hk,_⟩:=hx
    have:=hk.2 _ rfl;subst this
    refine⟨_,?_,by simp[AR,CR,FVR];rfl⟩
    simp[Builtin.cap_,ht,hr,aaf hu,goInt]
  · cases h
theorem aek{gA:IntKind->Int->Int->Int}{gM:Value->Value->Sem Value}(hg:∀ k x y w,(gM (.int k x) (.int k y)).run P w = .ok (.int k (gA k x y)) w) :
    ∀ {l:List A}{vs:List Value}{x r:A}{v:Value},l.foldl (λacc y=>match acc,y with
      | some (.c (.v (.int k a))),.c (.v (.int k' b))=>if k=k' then some (.c (.v (.int k (gA k a b))))else none
      |_,_=>none) (some x)=some r->AR Φ ρ H x v->ARs Φ ρ H l vs->∀ w:World,∃ z,(vs.foldlM gM v).run P w = .ok z w/\AR Φ ρ H r z
  | [],vs,x,r,v,h,hx,hl,w=>by
    simp only[ARs]at hl;subst hl
    simp at h;subst h
    exact⟨v,rfl,hx⟩
  | y::l,vs,x,r,v,h,hx,hl,w=>by
    simp only[ARs]at hl
    obtain⟨u,vs',rfl,hy,hl⟩:=hl
    rw[List.foldl_cons]at h
    have none_:∀ (l:List A),l.foldl (λacc y=>match acc,y with
      | some (.c (.v (.int k a))),.c (.v (.int k' b))=>if k=k' then some (.c (.v (.int k (gA k a b))))else none
      |_,_=>none) (none:Option A)=none:=by
      intro l;induction l with
      | nil=>rfl
      | cons a l ih=>rw[List.foldl_cons];exact ih
    split at h
    · rename_i k x' k' y' he
      cases he
      split at h
      · rename_i hk;subst hk
        simp only[AR,CR,FVR]at hx hy
        subst hx;subst hy
        obtain⟨z,hz,hr⟩:=aek hg (v:=.int k (gA k x' y')) h (by simp[AR,CR,FVR]) hl w
        refine⟨z,?_,hr⟩
        rw[List.foldlM_cons,Sem.run_bind,hg]
        exact hz
      · rw[none_]at h;cases h
    · rw[none_]at h;cases h
end Go.Ev
namespace Go.Ev
variable[Glo]
set_option linter.unusedSimpArgs false
variable{P:Program}{Φ:Phi}{ρ:Rho}{H:Heap}{s:List A}{a:Act}
theorem afc(hs:SR Φ ρ H s a.tmps):∀ l:List Operand,ARs Φ ρ H (l.map (opd s)) (l.map a.eval)
  | []=>by simp[ARs]
  | x::l=>by simp only[List.map_cons,ARs];exact⟨_,_,rfl,aaN hs x,afc hs l⟩
theorem val_run{x:Sem Value}{z:Value}{w:World}(h:x.run P w = .ok z w):(do pure (.value (<-x)):Sem Next).run P w = .ok (.value z) w:=by
  rw[Sem.run_bind,h];rfl
theorem aaE{o:Oper}{b:Builtin}{args:Array Operand}{ts:Array TypeId}{e:Operand->Value}(ho:o.op = .call { callee:=.builtin b,args,argTypes:=ts }) :
    execOp e o=builtin b ts o.type (args.map fun |.const _=>true |_=>false) (args.map e):=by
  simp only[execOp,ho,resolve]
  rfl
theorem abb{l:Array Operand}{e:Operand->Value}{x:Operand}{i:Nat}(h:l[i]?=some x):(l.map e)[i]?=some (e x):=by simp[h]
theorem amU{o:Oper}{r:A}(h:sil P s o.op=some r)(hs:SR Φ ρ H s a.tmps)(w:World) :
    ∃ z,(execOp a.eval o).run P w = .ok (.value z) w/\AR Φ ρ H r z:=by
  have hO:∀ x,AR Φ ρ H (opd s x) (a.eval x):=aaN hs
  unfold sil at h
  split at h
  · rename_i x ho;cases h;exact⟨_,by simp[execOp,ho],hO x⟩
  · rename_i x ho;cases h;exact⟨_,by simp[execOp,ho],hO x⟩
  · rename_i c x y ho
    split at h
    · rename_i t hc
      cases h
      have hc':=hO c
      rw[hc]at hc'
      simp only[AR,CR,FVR]at hc'
      refine⟨if t then a.eval x else a.eval y,?_,?_⟩
      · simp only[execOp,ho,hc',asBool,Sem.run_bind,Sem.run_pure,Result.andThen_ok]
      · cases t <;> simp[hO]
    · cases h
  · rename_i x ho
    have hx:=hO x
    split at h
    all_goals (try (cases h;done))
    all_goals (rename_i hc;cases h;rw[hc]at hx)
    · have hx':=hx
      simp only[AR,CR]at hx
      obtain⟨p,e1,_⟩:=hx
      refine⟨a.eval x,?_,hx'⟩
      simp[execOp,ho,e1]
    · have hx':=hx
      simp only[AR,CR,FVR]at hx
      obtain⟨c,off,arr,e1,_⟩:=hx
      refine⟨a.eval x,?_,hx'⟩
      simp[execOp,ho,e1]
    · have hx':=hx
      simp only[AR,CR,FVR]at hx
      obtain⟨arr,e1,_⟩:=hx
      refine⟨a.eval x,?_,hx'⟩
      simp[execOp,ho,e1]
    · have hx':=hx
      simp only[AR,CR,FVR]at hx
      obtain⟨arr,e1,_⟩:=hx
      refine⟨a.eval x,?_,hx'⟩
      simp[execOp,ho,e1]
  · rename_i op t x y _ ho
    obtain⟨z,hz,hr⟩:=aoD (P:=P) (ox:=x) (oy:=y) h (hO x) (hO y) w
    exact⟨z,by simp only[execOp,ho];exact val_run hz,hr⟩
  · rename_i op t x ho
    obtain⟨z,hz,hr⟩:=ao7 (P:=P) h (hO x) w
    exact⟨z,by simp only[execOp,ho];exact val_run hz,hr⟩
  · rename_i src dst x ho
    obtain⟨z,hz,hr⟩:=amh (P:=P) h (hO x) w
    exact⟨z,by simp only[execOp,ho];exact val_run hz,hr⟩
  · rename_i t x ho
    have hx:=hO x
    split at h
    · cases h
    · rename_i d v hd hu hv
      cases h
      rw[hv]at hx
      simp only[AR,CR]at hx
      refine⟨.iface t (a.eval x),?_,by simp only[AR,CR,FVR];exact⟨_,rfl,hx⟩⟩
      simp only[execOp,ho]
      refine val_run ?_
      simp only[Instr.makeInterface,Sem.run_bind,aaf hu,Result.andThen_ok]
      cases d <;> first | rfl | (exact absurd rfl (hd _))
    · cases h
  · rename_i f first caps ho
    split at h
    · rename_i h0
      simp only[Option.map_eq_some_iff]at h
      obtain⟨l,hl,rfl⟩:=h
      obtain⟨e1,e2⟩:=abx hl
      have:first = #[]:=Array.eq_empty_of_size_eq_zero h0
      subst this
      refine⟨.func (.func f) #[] (caps.map a.eval),?_,?_⟩
      · simp[execOp,ho,Instr.makeFunc]
      · simp only[AR,CR]
        refine⟨_,rfl,by simpa using e1,CRs_iff.2 λi x hi=>?_⟩
        obtain⟨y,hy,hc⟩:=e2 i x hi
        rw[List.getElem?_map]at hy
        obtain⟨q,hq,rfl⟩:=Option.map_eq_some_iff.1 hy
        refine⟨a.eval q,by simp at hq;simp[hq],?_⟩
        have:=hO q
        unfold amP at hc
        split at hc
        · rename_i hq';cases hc;rw[hq']at this;simpa[AR]using this
        · cases hc
    · cases h
  · rename_i t x lo hi mx ho
    obtain⟨z,hz,hr⟩:=akI (P:=P) h hs (hO x) w
    exact⟨z,by simp only[execOp,ho];exact val_run hz,hr⟩
  · rename_i t x f ho
    obtain⟨z,hz,hr⟩:=aeO (P:=P) h (hO x) w
    exact⟨z,by simp only[execOp,ho];exact val_run hz,hr⟩
  · rename_i t x f ho
    obtain⟨z,hz,hr⟩:=ajS (P:=P) h (hO x) w
    exact⟨z,by simp only[execOp,ho];exact val_run hz,hr⟩
  · rename_i t x ix ho
    obtain⟨z,hz,hr⟩:=afk (P:=P) h (hO x) (hO ix) w
    exact⟨z,by simp only[execOp,ho];exact val_run hz,hr⟩
  · rename_i t x ix ho
    obtain⟨z,hz,hr⟩:=akc (P:=P) h (hO x) (hO ix) w
    exact⟨z,by simp only[execOp,ho];exact val_run hz,hr⟩
  · rename_i x i ho
    have hx:=hO x
    split at h
    · rename_i vs hv
      rw[hv]at hx
      simp only[AR]at hx
      obtain⟨arr,e1,e2⟩:=hx
      obtain⟨e3,e4⟩:=adv.1 e2
      obtain⟨z,hz,hr⟩:=e4 i r h
      refine⟨z,?_,hr⟩
      simp only[execOp,ho,e1]
      refine val_run ?_
      simp at hz
      simp[Instr.extract,hz]
    · cases h
  · rename_i t parts ho
    obtain⟨z,hz,hr⟩:=ajj (P:=P) (vs:=parts.map λ(i,x)=>(i,a.eval x)) h (by simp) (λi p hp=>by
      rw[List.getElem?_map]at hp
      obtain⟨q,hq,rfl⟩:=Option.map_eq_some_iff.1 hp
      refine⟨(q.1,a.eval q.2),?_,hO q.2⟩
      simp at hq
      simp[hq]) w
    exact⟨z,by simp only[execOp,ho];exact val_run hz,hr⟩
  · rename_i args ts ho
    split at h
    · rename_i t x ht hx
      obtain⟨z,hz,hr⟩:=ans (P:=P) h (hO x) o.type ts (args.map a.eval) ht (abb hx) w
      exact⟨z,by rw[aaE ho];exact val_run hz,hr⟩
    · cases h
  · rename_i args ts ho
    split at h
    · rename_i t x ht hx
      obtain⟨z,hz,hr⟩:=anU (P:=P) h (hO x) o.type ts (args.map a.eval) ht (abb hx) w
      exact⟨z,by rw[aaE ho];exact val_run hz,hr⟩
    · cases h
  · rename_i args ts ho
    have hA:=afc hs args.toList
    rw[aaE ho]
    cases hl:args.toList with
    | nil=>simp[hl,minA]at h
    | cons x l=>
      rw[hl]at h hA
      simp only[List.map_cons,ARs]at h hA
      obtain⟨v,vs,e1,e2,e3⟩:=hA
      cases e1
      obtain⟨z,hz,hr⟩:=aek (P:=P) (gA:=λ_ a b=>if b<a then b else a) (gM:=Builtin.min2) (λk x y w=>rfl) h e2 e3 w
      refine⟨z,val_run ?_,hr⟩
      simp only[Builtin.min_,Array.toList_map,hl,List.map_cons]
      exact hz
  · rename_i args ts ho
    have hA:=afc hs args.toList
    rw[aaE ho]
    cases hl:args.toList with
    | nil=>simp[hl,maxA]at h
    | cons x l=>
      rw[hl]at h hA
      simp only[List.map_cons,ARs]at h hA
      obtain⟨v,vs,e1,e2,e3⟩:=hA
      cases e1
      obtain⟨z,hz,hr⟩:=aek (P:=P) (gA:=λ_ a b=>if b>a then b else a) (gM:=Builtin.max2) (λk x y w=>rfl) h e2 e3 w
      refine⟨z,val_run ?_,hr⟩
      simp only[Builtin.max_,Array.toList_map,hl,List.map_cons]
      exact hz
  · cases h
end Go.Ev

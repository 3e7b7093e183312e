import Derived.Test.YtganajogkdinaaaGreatGPe
import Derived.Test.YtganajogkdinaaaGreatEvPl
import Derived.Test.YtganajogkdinaaaGreatEvInt
set_option linter.all false
namespace Go.R4.Lb
open Go.Proofs Go.Ev Go.R4
set_option maxRecDepth 100000
def runU:Nat->Int->List Int->Int×List Int
 | 0,n,l=>(n,l)
 | f+1,n,l=>if n>127 then runU f (n/128) (l++[n % 128+128])else(n,l)
def encU(n:Int):List Int:=(runU 10 n []).2++[(runU 10 n []).1]
theorem ao6{n:Int}(h0:0<=n)(h1:n<18446744073709551616):ior .u8 (icv .u8 (iand .u64 n 127)) 128=n % 128+128/\ishr .u64 n 7=n/128:=by
 have e:iand .u64 n 127=n % 128:=abv (j:=7) (by decide) (by decide)
 refine⟨?_,adu (k:=.u64) (j:=7) (by decide)⟩
 rw[e,aef (by omega) (by omega),amN (by omega) (by omega)]
theorem amA(k:Nat):∀ (f:Nat) (n:Int) (l:List Int) (m:Nat),0<=n->n<18446744073709551616->n<128 ^ (f+1)->l.length+f<=1000->f+1<=m->loopS (eE.b2 k) m (n,l)=some (runU f n l)
 | f,n,l,0,_,_,_,_,h=>by omega
 | 0,n,l,m+1,h0,h1,h2,_,_=>by
  have h:¬n>127:=by simp at h2;omega
  rw[aan (o:=(n,l)) (by simp only[eE.b2];rw[if_neg h])]
  rfl
 | f+1,n,l,m+1,h0,h1,h2,h3,h4=>by
  by_cases hn:n>127
  ·have e:runU (f+1) n l=runU f (n/128) (l++[n % 128+128]):=by simp[runU,hn]
   obtain⟨e1,e2⟩:=ao6 h0 h1
   rw[e,aaB (v':=(n/128,l++[n % 128+128])) (by simp only[eE.b2];rw[if_pos hn,if_pos (aae (by omega) (by omega)),e1,e2])]
   exact amA k f (n/128) _ m (by omega) (by omega) (by rw[Int.pow_succ]at h2;omega) (by simp;omega) (by omega)
  ·have e:runU (f+1) n l=(n,l):=by simp[runU,hn]
   rw[e,aan (by simp only[eE.b2];rw[if_neg hn])]
theorem adH:∀ (f:Nat) (n:Int) (l:List Int),0<=n->n<128 ^ (f+1)->0<=(runU f n l).1/\(runU f n l).1<=127/\(runU f n l).2.length<=l.length+f
 | 0,n,l,h0,h1=>by simp[runU];simp at h1;omega
 | f+1,n,l,h0,h1=>by
  by_cases hn:n>127
  ·have e:runU (f+1) n l=runU f (n/128) (l++[n % 128+128]):=by simp[runU,hn]
   rw[e]
   have:=adH f (n/128) (l++[n % 128+128]) (by omega) (by rw[Int.pow_succ]at h1;omega)
   simp at this
   omega
  ·have e:runU (f+1) n l=(n,l):=by simp[runU,hn]
   rw[e];simp;omega
theorem u_ok{k:Nat}(hk:20<=k){n:Int}(h0:0<=n)(h1:n<18446744073709551616):eE.f k n=some (encU n):=by
 obtain⟨k,rfl⟩:∃ j,k=j+1:=⟨k-1,by omega⟩
 obtain⟨g1,g2,g3⟩:=adH 10 n [] h0 (by omega)
 simp only[eE.f]
 rw[amA k 10 n [] k h0 h1 (by omega) (by simp) (by omega)]
 simp only[Option.bind_some]
 rw[if_pos (aae (by simp at g3;omega) (by simp at g3;omega)),aef g1 (by omega)]
 rfl
theorem wrap_u64(n:Int):IntKind.u64.wrap n=n % 18446744073709551616:=by
 simp[IntKind.wrap,IntKind.bits,IntKind.signed]
theorem wrap_i64(n:Int):IntKind.i64.wrap n=(n+9223372036854775808) % 18446744073709551616-9223372036854775808:=by
 simp only[IntKind.wrap,IntKind.bits,IntKind.signed]
 simp
 omega
theorem anz{a b:Int}(h0:0<=a+b)(h1:a+b<=255):iadd .u8 a b=a+b:=aky ⟨h0,h1⟩
theorem age(k:Nat):∀ (f:Nat) (n:Int) (l:List Int) (m:Nat),0<=n->n<18446744073709551616->n<128 ^ (f+1)->l.length+f<=1000->f+1<=m->loopS (dJ.b2 k) m (n,l)=some (runU f n l)
 | f,n,l,0,_,_,_,_,h=>by omega
 | 0,n,l,m+1,h0,h1,h2,_,_=>by
  have h:¬n≥128:=by simp at h2;omega
  rw[aan (o:=(n,l)) (by simp only[dJ.b2];rw[if_neg h])]
  rfl
 | f+1,n,l,m+1,h0,h1,h2,h3,h4=>by
  by_cases hn:n>127
  ·have e:runU (f+1) n l=runU f (n/128) (l++[n % 128+128]):=by simp[runU,hn]
   have e1:iadd .u8 (icv .u8 (irem .u64 n 128)) 128=n % 128+128:=by rw[anF h0,aef (by omega) (by omega),anz (by omega) (by omega)]
   have e2:iquo .u64 n 128=n/128:=by
    unfold iquo
    rw[Int.tdiv_eq_ediv_of_nonneg h0]
    exact abe (k:=.u64) ⟨by omega,by omega⟩
   rw[e,aaB (v':=(n/128,l++[n % 128+128])) (by simp only[dJ.b2];rw[if_pos (by omega),if_pos (aae (by omega) (by omega)),e1,e2])]
   exact age k f (n/128) _ m (by omega) (by omega) (by rw[Int.pow_succ]at h2;omega) (by simp;omega) (by omega)
  ·have e:runU (f+1) n l=(n,l):=by simp[runU,hn]
   rw[e,aan (by simp only[dJ.b2];rw[if_neg (by omega)])]
theorem aoa{k:Nat}(hk:20<=k){n:Int}(h0:0<=n)(h1:n<18446744073709551616):dJ.f k n=some (encU n):=by
 obtain⟨k,rfl⟩:∃ j,k=j+1:=⟨k-1,by omega⟩
 obtain⟨g1,g2,g3⟩:=adH 10 n [] h0 (by omega)
 simp only[dJ.f]
 rw[age k 10 n [] k h0 h1 (by omega) (by simp) (by omega)]
 simp only[Option.bind_some]
 rw[if_pos (aae (by simp at g3;omega) (by simp at g3;omega)),aef g1 (by omega)]
 rfl
def runS:Nat->Int->List Int->Int×List Int
 | 0,n,l=>(n,l)
 | f+1,n,l=>if n < -64∨n≥64 then runS f (n/128) (l++[n % 128+128])else(n,l)
def encS(n:Int):List Int:=(runS 9 n []).2++[(runS 9 n []).1 % 128]
theorem ahW(n:Int):ior .u8 (icv .u8 (iand .i64 n 127)) 128=n % 128+128/\ishr .i64 n 7=n/128/\icv .u8 (iand .i64 n 127)=n % 128:=by
 have e:iand .i64 n 127=n % 128:=abv (j:=7) (by decide) (by decide)
 refine⟨?_,adu (k:=.i64) (j:=7) (by decide),?_⟩
 ·rw[e,aef (by omega) (by omega),amN (by omega) (by omega)]
 ·rw[e,aef (by omega) (by omega)]
theorem anN(k:Nat){n:Int}{l:List Int}(hn:n < -64∨n≥64)(hl:l.length<=1000):eo.b2 k (n,l)=some (.inl (n/128,l++[n % 128+128])):=by
 obtain⟨e1,e2,_⟩:=ahW n
 simp only[eo.b2]
 have:(if n<(-64)then(some (.inl ()):Option (Unit⊕((Int×List Int)⊕(Int×List Int))))else(if n≥64 then(some (.inl ()))else(some (.inr (.inr (n,l))))))=some (.inl ()):=by
  by_cases h:n < -64
  ·rw[if_pos h]
  ·rw[if_neg h,if_pos (by omega)]
 rw[this]
 simp only[segB]
 rw[if_pos (aae (by omega) (by omega)),e1,e2]
theorem ane(k:Nat){n:Int}{l:List Int}(hn:¬(n < -64∨n≥64)):eo.b2 k (n,l)=some (.inr (n,l)):=by
 simp only[eo.b2]
 rw[if_neg (by omega),if_neg (by omega)]
 rfl
theorem am6(k:Nat):∀ (f:Nat) (n:Int) (l:List Int) (m:Nat),-(64*128 ^ f)<=n->n<64*128 ^ f->l.length+f<=1000->f+1<=m->loopS (eo.b2 k) m (n,l)=some (runS f n l)
 | f,n,l,0,_,_,_,h=>by omega
 | 0,n,l,m+1,h0,h1,_,_=>by
  rw[aan (ane k (by simp at h0 h1;omega))]
  rfl
 | f+1,n,l,m+1,h0,h1,h3,h4=>by
  rw[Int.pow_succ]at h0 h1
  by_cases hn:n < -64∨n≥64
  ·have e:runS (f+1) n l=runS f (n/128) (l++[n % 128+128]):=by simp only[runS];rw[if_pos hn]
   rw[e,aaB (anN k hn (by omega))]
   exact am6 k f (n/128) _ m (by omega) (by omega) (by simp;omega) (by omega)
  ·have e:runS (f+1) n l=(n,l):=by simp only[runS];rw[if_neg hn]
   rw[e,aan (ane k hn)]
theorem adV:∀ (f:Nat) (n:Int) (l:List Int),-(64*128 ^ f)<=n->n<64*128 ^ f->-64<=(runS f n l).1/\(runS f n l).1<64/\(runS f n l).2.length<=l.length+f
 | 0,n,l,h0,h1=>by simp[runS];simp at h0 h1;omega
 | f+1,n,l,h0,h1=>by
  rw[Int.pow_succ]at h0 h1
  by_cases hn:n < -64∨n≥64
  ·have e:runS (f+1) n l=runS f (n/128) (l++[n % 128+128]):=by simp only[runS];rw[if_pos hn]
   rw[e]
   have:=adV f (n/128) (l++[n % 128+128]) (by omega) (by omega)
   simp at this
   omega
  ·have e:runS (f+1) n l=(n,l):=by simp only[runS];rw[if_neg hn]
   rw[e];simp;omega
theorem s_ok{k:Nat}(hk:20<=k){n:Int}(h0:-9223372036854775808<=n)(h1:n<=9223372036854775807):eo.f k n=some (encS n):=by
 obtain⟨k,rfl⟩:∃ j,k=j+1:=⟨k-1,by omega⟩
 obtain⟨g1,g2,g3⟩:=adV 9 n [] (by omega) (by omega)
 simp only[eo.f]
 rw[am6 k 9 n [] k (by omega) (by omega) (by simp) (by omega)]
 simp only[Option.bind_some]
 rw[if_pos (aae (by simp at g3;omega) (by simp at g3;omega)),(ahW _).2.2]
 rfl
theorem aiu(k:Nat){n:Int}{l:List Int}(hn:n < -64∨n≥64)(hl:l.length<=1000):dA.b2 k (n,l)=some (.inl (n/128,l++[n % 128+128])):=by
 obtain⟨e1,e2,_⟩:=ahW n
 simp only[dA.b2]
 have:(if n≥64 then(some (.inl ()):Option (Unit⊕((Int×List Int)⊕(Int×List Int))))else(if n<(-64)then(some (.inl ()))else(some (.inr (.inr (n,l))))))=some (.inl ()):=by
  by_cases h:n≥64
  ·rw[if_pos h]
  ·rw[if_neg h,if_pos (by omega)]
 rw[this]
 simp only[segB]
 rw[if_pos (aae (by omega) (by omega)),e1,e2]
theorem agn(k:Nat){n:Int}{l:List Int}(hn:¬(n < -64∨n≥64)):dA.b2 k (n,l)=some (.inr (n,l)):=by
 simp only[dA.b2]
 rw[if_neg (by omega),if_neg (by omega)]
 rfl
theorem agf(k:Nat):∀ (f:Nat) (n:Int) (l:List Int) (m:Nat),-(64*128 ^ f)<=n->n<64*128 ^ f->l.length+f<=1000->f+1<=m->loopS (dA.b2 k) m (n,l)=some (runS f n l)
 | f,n,l,0,_,_,_,h=>by omega
 | 0,n,l,m+1,h0,h1,_,_=>by
  rw[aan (agn k (by simp at h0 h1;omega))]
  rfl
 | f+1,n,l,m+1,h0,h1,h3,h4=>by
  rw[Int.pow_succ]at h0 h1
  by_cases hn:n < -64∨n≥64
  ·have e:runS (f+1) n l=runS f (n/128) (l++[n % 128+128]):=by simp only[runS];rw[if_pos hn]
   rw[e,aaB (aiu k hn (by omega))]
   exact agf k f (n/128) _ m (by omega) (by omega) (by simp;omega) (by omega)
  ·have e:runS (f+1) n l=(n,l):=by simp only[runS];rw[if_neg hn]
   rw[e,aan (agn k hn)]
theorem ant{k:Nat}(hk:20<=k){n:Int}(h0:-9223372036854775808<=n)(h1:n<=9223372036854775807):dA.f k n=some (encS n):=by
 obtain⟨k,rfl⟩:∃ j,k=j+1:=⟨k-1,by omega⟩
 obtain⟨g1,g2,g3⟩:=adV 9 n [] (by omega) (by omega)
 simp only[dA.f]
 rw[agf k 9 n [] k (by omega) (by omega) (by simp) (by omega)]
 simp only[Option.bind_some]
 rw[if_pos (aae (by simp at g3;omega) (by simp at g3;omega)),(ahW _).2.2]
 rfl
end Go.R4.Lb

import Derived.Test.YtganajogkdinaaaGreatGPe
import Derived.Test.YtganajogkdinaaaGreatEvPl
import Derived.Test.YtganajogkdinaaaGreatEvInt
set_option linter.all false
namespace Go.R4.Lb
open Go.Proofs Go.Ev Go.R4
set_option maxRecDepth 100000
def runU:Nat->Int->List Int->Int×List Int
 | 0,n,l=>(n,l)
 | f+1,n,l=>if n>127 then runU f (n/128) (l++[n % 128+128])else(n,l)
def encU(n:Int):List Int:=(runU 10 n []).2++[(runU 10 n []).1]
theorem aox{n:Int}(h0:0<=n)(h1:n<18446744073709551616):ior .u8 (icv .u8 (iand .u64 n 127)) 128=n % 128+128/\ishr .u64 n 7=n/128:=by
 have e:iand .u64 n 127=n % 128:=abT (j:=7) (by decide) (by decide)
 refine⟨?_,aeP (k:=.u64) (j:=7) (by decide)⟩
 rw[e,ah5 (by omega) (by omega),amc (by omega) (by omega)]
theorem amf(k:Nat):∀ (f:Nat) (n:Int) (l:List Int) (m:Nat),0<=n->n<18446744073709551616->n<128 ^ (f+1)->l.length+f<=1000->f+1<=m->loopS (dE.b2 k) m (n,l)=some (runU f n l)
 | f,n,l,0,_,_,_,_,h=>by omega
 | 0,n,l,m+1,h0,h1,h2,_,_=>by
  have h:¬n>127:=by simp at h2;omega
  rw[aaz (o:=(n,l)) (by simp only[dE.b2];rw[if_neg h])]
  rfl
 | f+1,n,l,m+1,h0,h1,h2,h3,h4=>by
  by_cases hn:n>127
  ·have e:runU (f+1) n l=runU f (n/128) (l++[n % 128+128]):=by simp[runU,hn]
   obtain⟨e1,e2⟩:=aox h0 h1
   rw[e,aa7 (v':=(n/128,l++[n % 128+128])) (by simp only[dE.b2];rw[if_pos hn,if_pos (aab (by omega) (by omega)),e1,e2])]
   exact amf k f (n/128) _ m (by omega) (by omega) (by rw[Int.pow_succ]at h2;omega) (by simp;omega) (by omega)
  ·have e:runU (f+1) n l=(n,l):=by simp[runU,hn]
   rw[e,aaz (by simp only[dE.b2];rw[if_neg hn])]
theorem afa:∀ (f:Nat) (n:Int) (l:List Int),0<=n->n<128 ^ (f+1)->0<=(runU f n l).1/\(runU f n l).1<=127/\(runU f n l).2.length<=l.length+f
 | 0,n,l,h0,h1=>by simp[runU];simp at h1;omega
 | f+1,n,l,h0,h1=>by
  by_cases hn:n>127
  ·have e:runU (f+1) n l=runU f (n/128) (l++[n % 128+128]):=by simp[runU,hn]
   rw[e]
   have:=afa f (n/128) (l++[n % 128+128]) (by omega) (by rw[Int.pow_succ]at h1;omega)
   simp at this
   omega
  ·have e:runU (f+1) n l=(n,l):=by simp[runU,hn]
   rw[e];simp;omega
theorem u_ok{k:Nat}(hk:20<=k){n:Int}(h0:0<=n)(h1:n<18446744073709551616):dE.f k n=some (encU n):=by
 obtain⟨k,rfl⟩:∃ j,k=j+1:=⟨k-1,by omega⟩
 obtain⟨g1,g2,g3⟩:=afa 10 n [] h0 (by omega)
 simp only[dE.f]
 rw[amf k 10 n [] k h0 h1 (by omega) (by simp) (by omega)]
 simp only[Option.bind_some]
 rw[if_pos (aab (by simp at g3;omega) (by simp at g3;omega)),ah5 g1 (by omega)]
 rfl
theorem wrap_u64(n:Int):IntKind.u64.wrap n=n % 18446744073709551616:=by
 simp[IntKind.wrap,IntKind.bits,IntKind.signed]
theorem wrap_i64(n:Int):IntKind.i64.wrap n=(n+9223372036854775808) % 18446744073709551616-9223372036854775808:=by
 simp only[IntKind.wrap,IntKind.bits,IntKind.signed]
 simp
 omega
def runS:Nat->Int->List Int->Int×List Int
 | 0,n,l=>(n,l)
 | f+1,n,l=>if n < -64∨n≥64 then runS f (n/128) (l++[n % 128+128])else(n,l)
def encS(n:Int):List Int:=(runS 9 n []).2++[(runS 9 n []).1 % 128]
theorem amA(n:Int):ior .u8 (icv .u8 (iand .i64 n 127)) 128=n % 128+128/\ishr .i64 n 7=n/128/\icv .u8 (iand .i64 n 127)=n % 128:=by
 have e:iand .i64 n 127=n % 128:=abT (j:=7) (by decide) (by decide)
 refine⟨?_,aeP (k:=.i64) (j:=7) (by decide),?_⟩
 ·rw[e,ah5 (by omega) (by omega),amc (by omega) (by omega)]
 ·rw[e,ah5 (by omega) (by omega)]
theorem anr(k:Nat){n:Int}{l:List Int}(hn:n < -64∨n≥64)(hl:l.length<=1000):dx.b2 k (n,l)=some (.inl (n/128,l++[n % 128+128])):=by
 obtain⟨e1,e2,_⟩:=amA n
 simp only[dx.b2]
 have:(if n<(-64)then(some (.inl ()):Option (Unit⊕((Int×List Int)⊕(Int×List Int))))else(if n≥64 then(some (.inl ()))else(some (.inr (.inr (n,l))))))=some (.inl ()):=by
  by_cases h:n < -64
  ·rw[if_pos h]
  ·rw[if_neg h,if_pos (by omega)]
 rw[this]
 simp only[segB]
 rw[if_pos (aab (by omega) (by omega)),e1,e2]
theorem amd(k:Nat){n:Int}{l:List Int}(hn:¬(n < -64∨n≥64)):dx.b2 k (n,l)=some (.inr (n,l)):=by
 simp only[dx.b2]
 rw[if_neg (by omega),if_neg (by omega)]
 rfl
theorem amg(k:Nat):∀ (f:Nat) (n:Int) (l:List Int) (m:Nat),-(64*128 ^ f)<=n->n<64*128 ^ f->l.length+f<=1000->f+1<=m->loopS (dx.b2 k) m (n,l)=some (runS f n l)
 | f,n,l,0,_,_,_,h=>by omega
 | 0,n,l,m+1,h0,h1,_,_=>by
  rw[aaz (amd k (by simp at h0 h1;omega))]
  rfl
 | f+1,n,l,m+1,h0,h1,h3,h4=>by
  rw[Int.pow_succ]at h0 h1
  by_cases hn:n < -64∨n≥64
  ·have e:runS (f+1) n l=runS f (n/128) (l++[n % 128+128]):=by simp only[runS];rw[if_pos hn]
   rw[e,aa7 (anr k hn (by omega))]
   exact amg k f (n/128) _ m (by omega) (by omega) (by simp;omega) (by omega)
  ·have e:runS (f+1) n l=(n,l):=by simp only[runS];rw[if_neg hn]
   rw[e,aaz (amd k hn)]
theorem aeW:∀ (f:Nat) (n:Int) (l:List Int),-(64*128 ^ f)<=n->n<64*128 ^ f->-64<=(runS f n l).1/\(runS f n l).1<64/\(runS f n l).2.length<=l.length+f
 | 0,n,l,h0,h1=>by simp[runS];simp at h0 h1;omega
 | f+1,n,l,h0,h1=>by
  rw[Int.pow_succ]at h0 h1
  by_cases hn:n < -64∨n≥64
  ·have e:runS (f+1) n l=runS f (n/128) (l++[n % 128+128]):=by simp only[runS];rw[if_pos hn]
   rw[e]
   have:=aeW f (n/128) (l++[n % 128+128]) (by omega) (by omega)
   simp at this
   omega
  ·have e:runS (f+1) n l=(n,l):=by simp only[runS];rw[if_neg hn]
   rw[e];simp;omega
theorem s_ok{k:Nat}(hk:20<=k){n:Int}(h0:-9223372036854775808<=n)(h1:n<=9223372036854775807):dx.f k n=some (encS n):=by
 obtain⟨k,rfl⟩:∃ j,k=j+1:=⟨k-1,by omega⟩
 obtain⟨g1,g2,g3⟩:=aeW 9 n [] (by omega) (by omega)
 simp only[dx.f]
 rw[amg k 9 n [] k (by omega) (by omega) (by simp) (by omega)]
 simp only[Option.bind_some]
 rw[if_pos (aab (by simp at g3;omega) (by simp at g3;omega)),(amA _).2.2]
 rfl
end Go.R4.Lb

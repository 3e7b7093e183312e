import Derived.Test.YtganajogkdinaaaGreatGMd
import Derived.Test.YtganajogkdinaaaGreatEvPl
import Derived.Test.YtganajogkdinaaaGreatEvInt
set_option linter.all false
namespace Go.R4.Lb
open Go.Proofs Go.Ev Go.R4
set_option maxRecDepth 100000
def runU:Nat->Int->List Int->Int×List Int
 | 0,n,l=>(n,l)
 | f+1,n,l=>if n>127 then runU f (n/128) (l++[n % 128+128])else(n,l)
def encU(n:Int):List Int:=(runU 10 n []).2++[(runU 10 n []).1]
theorem aab{n b:Nat}(h:n*b<=140737488355328)(hn:n<=140737488355328):aac n b:=⟨h,hn⟩
theorem aoT{n:Int}(h0:0<=n)(h1:n<18446744073709551616):ior .u8 (icv .u8 (iand .u64 n 127)) 128=n % 128+128/\ishr .u64 n 7=n/128:=by
 have e:iand .u64 n 127=n % 128:=abc (j:=7) (by decide) (by decide)
 refine⟨?_,agQ (k:=.u64) (j:=7) (by decide)⟩
 rw[e,amg (by omega) (by omega),aoU (by omega) (by omega)]
theorem amC(k:Nat):∀ (f:Nat) (n:Int) (l:List Int) (m:Nat),0<=n->n<18446744073709551616->n<128 ^ (f+1)->l.length+f<=1000->f+1<=m->loopS (eA.b2 k) m (n,l)=some (runU f n l)
 | f,n,l,0,_,_,_,_,h=>by omega
 | 0,n,l,m+1,h0,h1,h2,_,_=>by
  have h:¬n>127:=by simp at h2;omega
  rw[aan (o:=(n,l)) (by simp only[eA.b2];rw[if_neg h])]
  rfl
 | f+1,n,l,m+1,h0,h1,h2,h3,h4=>by
  by_cases hn:n>127
  ·have e:runU (f+1) n l=runU f (n/128) (l++[n % 128+128]):=by simp[runU,hn]
   obtain⟨e1,e2⟩:=aoT h0 h1
   rw[e,aaF (v':=(n/128,l++[n % 128+128])) (by simp only[eA.b2];rw[if_pos hn,if_pos (aab (by omega) (by omega)),e1,e2])]
   exact amC k f (n/128) _ m (by omega) (by omega) (by rw[Int.pow_succ]at h2;omega) (by simp;omega) (by omega)
  ·have e:runU (f+1) n l=(n,l):=by simp[runU,hn]
   rw[e,aan (by simp only[eA.b2];rw[if_neg hn])]
theorem adO:∀ (f:Nat) (n:Int) (l:List Int),0<=n->n<128 ^ (f+1)->0<=(runU f n l).1/\(runU f n l).1<=127/\(runU f n l).2.length<=l.length+f
 | 0,n,l,h0,h1=>by simp[runU];simp at h1;omega
 | f+1,n,l,h0,h1=>by
  by_cases hn:n>127
  ·have e:runU (f+1) n l=runU f (n/128) (l++[n % 128+128]):=by simp[runU,hn]
   rw[e]
   have:=adO f (n/128) (l++[n % 128+128]) (by omega) (by rw[Int.pow_succ]at h1;omega)
   simp at this
   omega
  ·have e:runU (f+1) n l=(n,l):=by simp[runU,hn]
   rw[e];simp;omega
theorem u_ok{k:Nat}(hk:20<=k){n:Int}(h0:0<=n)(h1:n<18446744073709551616):eA.f k n=some (encU n):=by
 obtain⟨k,rfl⟩:∃ j,k=j+1:=⟨k-1,by omega⟩
 obtain⟨g1,g2,g3⟩:=adO 10 n [] h0 (by omega)
 simp only[eA.f]
 rw[amC k 10 n [] k h0 h1 (by omega) (by simp) (by omega)]
 simp only[Option.bind_some]
 rw[if_pos (aab (by simp at g3;omega) (by simp at g3;omega)),amg g1 (by omega)]
 rfl
def rowL:Nat->List Int->Option (List Int)
 | 0,_=>none
 |_+1,[]=>none
 | m+1,x::r=>if x<128 then some [x]else(rowL m r).map (x :: ·)
theorem ael:∀ {m:Nat}{s l:List Int},rowL m s=some l->l.length<=m/\0<l.length/\l=s.take l.length/\l.length<=s.length/\(∃ x,l[l.length-1]?=some x/\x<128)
 | 0,s,l,h=>by simp[rowL]at h
 | m+1,[],l,h=>by simp[rowL]at h
 | m+1,x::r,l,h=>by
  simp only[rowL]at h
  split at h
  ·rename_i hx
   cases h
   exact⟨by simp,by simp,by simp,by simp,x,by simp,hx⟩
  ·obtain⟨q,hq,rfl⟩:=Option.map_eq_some_iff.1 h
   obtain⟨h1,h2,h3,h4,y,h5,h6⟩:=ael hq
   refine⟨by simp;omega,by simp,by simp;exact h3,by simp;omega,y,?_,h6⟩
   rw[show(x::q).length-1=(q.length-1)+1 from by simp;omega,List.getElem?_cons_succ]
   exact h5
def By(l:List Int):Prop:=∀ x∈l,inR .u8 x
theorem amE{e:Int}(h:inR .u8 e):(iand .u8 e 128=0)↔e<128:=by
 obtain⟨h0,h1⟩:=h
 obtain⟨n,rfl⟩:∃ n:Nat,e=n:=⟨e.toNat,by omega⟩
 have hn:n<256:=by omega
 have key:∀ m:Fin 256,(iand .u8 ((m.val:Nat):Int) 128=0)↔((m.val:Nat):Int)<128:=by decide +kernel
 exact key ⟨n,hn⟩
theorem at?_nat{β:Type}(l:List β)(i:Nat):at? l (i:Int)=l[i]?:=by simp[at?]
theorem aj9{l:List Int}{i:Nat}(h:i<l.length):l.drop i=l[i]::l.drop (i+1):=by rw[List.drop_eq_getElem_cons h]
theorem aeI(k:Nat){b:List Int}{a:Nat}{bits:Int}{most:Nat}(hb:By b)(hl:b.length<=9007199254740992)(hm:iquo .i64 (isub .i64 (iadd .i64 bits 7) 1) 7=(most:Int))(hm1:most<=10) :
  ∀ (d n m:Nat),n+d=most->d<m->loopS (ca.b5 k b (a:Int) bits) m (n:Int)=some (match rowL d (b.drop (a+n))with
   | none=>.inl ()
   | some l=>.inr ((b.drop a).take (n+l.length),((a+n+l.length:Nat):Int)))
 | 0,n,m,hn,hd=>by
  obtain⟨m,rfl⟩:∃ j,m=j+1:=⟨m-1,by omega⟩
  rw[aan (o:=.inl ()) (by simp only[ca.b5];rw[hm,if_neg (by omega)])]
  rfl
 | d+1,n,m,hn,hd=>by
  obtain⟨m,rfl⟩:∃ j,m=j+1:=⟨m-1,by omega⟩
  have hs:isub .i64 (b.length:Int) (n:Int)=(b.length:Int)-n:=aas (by omega) (by omega)
  by_cases hlt:a+n<b.length
  ·have e1:iadd .i64 (a:Int) (n:Int)=((a+n:Nat):Int):=by rw[aah (by omega) (by omega)];omega
   have e2:iadd .i64 ((a+n:Nat):Int) 1=((a+n+1:Nat):Int):=by rw[aah (by omega) (by omega)];omega
   have hx:=hb _ (List.getElem_mem hlt)
   rw[aj9 hlt]
   simp only[rowL]
   by_cases hx8:b[a+n]<128
   ·rw[if_pos hx8,aan (o:=.inr ((b.drop a).take (n+1),((a+n+1:Nat):Int)))]
    ·rfl
    ·simp only[ca.b5]
     rw[hm,if_pos (by omega),hs,if_pos (by omega),e1,at?_nat,List.getElem?_eq_getElem hlt]
     simp only[Option.bind_some]
     rw[if_pos ((amE hx).2 hx8),e2,if_pos ⟨by omega,by omega,by omega⟩]
     simp only[Int.toNat_natCast]
     rw[List.drop_take,show a+n+1-a=n+1 from by omega]
   ·rw[if_neg hx8,aaF (v':=((n+1:Nat):Int))]
    ·rw[aeI k hb hl hm hm1 d (n+1) m (by omega) (by omega),show a+(n+1)=a+n+1 from by omega]
     cases rowL d (b.drop (a+n+1))with
     | none=>rfl
     | some q=>
      simp only[Option.map_some,List.length_cons]
      rw[show n+1+q.length=n+(q.length+1)from by omega,show a+n+1+q.length=a+n+(q.length+1)from by omega]
    ·simp only[ca.b5]
     rw[hm,if_pos (by omega),hs,if_pos (by omega),e1,at?_nat,List.getElem?_eq_getElem hlt]
     simp only[Option.bind_some]
     rw[if_neg (λh=>hx8 ((amE hx).1 h)),aah (by omega) (by omega)]
     rfl
  ·rw[List.drop_eq_nil_of_le (by omega)]
   rw[aan (o:=.inl ()) (by simp only[ca.b5];rw[hm,if_pos (by omega),hs,if_neg (by omega)])]
   rfl
theorem agG{bits:Int}(h1:1<=bits)(h2:bits<=64):iquo .i64 (isub .i64 (iadd .i64 bits 7) 1) 7=(((bits+6)/7).toNat:Int)/\iquo .i64 (iadd .i64 bits 6) 7=(((bits+6)/7).toNat:Int):=by
 rw[aah (by omega) (by omega),aas (by omega) (by omega),amF (by omega) (by omega) (by decide),aah (by omega) (by omega),amF (by omega) (by omega) (by decide)]
 constructor <;> omega
def mostN(bits:Int):Nat:=((bits+6)/7).toNat
def aia(b:List Int)(a bits:Int):List Int×Int×Bool:=if bits<1∨bits>64∨a<0 then([],0,false)else match rowL (mostN bits) (b.drop a.toNat)with
 | none=>([],0,false)
 | some l=>(l,a+l.length,true)
theorem alm{k:Nat}(hk:20<=k){b:List Int}{a bits:Int}(hb:By b)(hl:b.length<=9007199254740992):ca.f k b a bits=some (aia b a bits):=by
 obtain⟨k,rfl⟩:∃ j,k=j+1:=⟨k-1,by omega⟩
 simp only[ca.f,aia]
 by_cases h1:bits<1
 ·rw[if_pos h1,if_pos (.inl h1)]
 ·rw[if_neg h1]
  by_cases h2:bits>64
  ·rw[if_pos h2,if_pos (.inr (.inl h2))]
  ·rw[if_neg h2]
   by_cases h3:a<0
   ·rw[if_pos h3,if_pos (.inr (.inr h3))]
   ·rw[if_neg h3,if_neg (by omega)]
    obtain⟨a,rfl⟩:∃ n:Nat,a=n:=⟨a.toNat,by omega⟩
    have hm:mostN bits<=10:=by unfold mostN;omega
    have:=aeI k (a:=a) (bits:=bits) (most:=mostN bits) hb hl (agG (by omega) (by omega)).1 hm (mostN bits) 0 k (by omega) (by omega)
    rw[show((0:Nat):Int)=(0:Int)from rfl]at this
    rw[this]
    simp only[Nat.add_zero,Int.toNat_natCast,Nat.zero_add]
    cases hr:rowL (mostN bits) (b.drop a)with
    | none=>rfl
    | some l=>
     simp only[altB]
     obtain⟨_,_,h4,_⟩:=ael hr
     rw[<-h4]
     congr 1
theorem wrap_u64(n:Int):IntKind.u64.wrap n=n % 18446744073709551616:=by
 simp[IntKind.wrap,IntKind.bits,IntKind.signed]
theorem afw(n:Int):IntKind.i64.wrap n=(n+9223372036854775808) % 18446744073709551616-9223372036854775808:=by
 simp only[IntKind.wrap,IntKind.bits,IntKind.signed]
 simp
 omega
def valL:List Int->Int
 | []=>0
 | x::r=>x % 128+128*valL r
theorem valL_nonneg:∀ l:List Int,0<=valL l
 | []=>Int.le_refl _
 | x::r=>by have:=valL_nonneg r;simp only[valL];omega
theorem valL_lt:∀ l:List Int,valL l<128 ^ l.length
 | []=>by simp[valL]
 | x::r=>by have:=valL_lt r;simp only[valL,List.length_cons,Int.pow_succ];omega
theorem valL_snoc:∀ (l:List Int) (x:Int),valL (l++[x])=valL l+x % 128*128 ^ l.length
 | [],x=>by simp[valL]
 | y::r,x=>by
  simp only[List.cons_append,valL,valL_snoc r x,List.length_cons,Int.pow_succ]
  rw[Int.mul_add,<-Int.add_assoc]
  congr 1
  rw[<-Int.mul_assoc,Int.mul_comm 128 (x % 128),Int.mul_assoc,Int.mul_comm 128]
theorem afF(w j:Nat)(hj:j<=w){a y:Int}(h0:0<=a)(h1:a<2 ^ j)(hy:0<=y):((BitVec.ofInt w a ||| BitVec.ofInt w (y*2 ^ j)).toNat:Int)=(a+y*2 ^ j) % 2 ^ w:=by
 obtain⟨a,rfl⟩:∃ n:Nat,a=n:=⟨a.toNat,by omega⟩
 obtain⟨y,rfl⟩:∃ n:Nat,y=n:=⟨y.toNat,by omega⟩
 have h1':a<2 ^ j:=by exact_mod_cast h1
 have hle:2 ^ j<=2 ^ w:=Nat.pow_le_pow_right (by decide) hj
 have e1:(BitVec.ofInt w (a:Int)).toNat=a:=by
  rw[BitVec.ofInt_natCast,BitVec.toNat_ofNat,Nat.mod_eq_of_lt (by omega)]
 have e2:(BitVec.ofInt w ((y:Int)*2 ^ j)).toNat=2 ^ j*(y % 2 ^ (w-j)):=by
  have:((y:Int)*2 ^ j)=((y*2 ^ j:Nat):Int):=by push_cast;rfl
  rw[this,BitVec.ofInt_natCast,BitVec.toNat_ofNat]
  have hw:2 ^ w=2 ^ (w-j)*2 ^ j:=by rw[<-Nat.pow_add,show w-j+j=w from by omega]
  rw[hw,Nat.mul_mod_mul_right,Nat.mul_comm]
 rw[BitVec.toNat_or,e1,e2,Nat.or_comm,<-Nat.two_pow_add_eq_or_of_lt h1']
 have hlt:2 ^ j*(y % 2 ^ (w-j))+a<2 ^ w:=by
  have hw:2 ^ w=2 ^ j*2 ^ (w-j):=by rw[<-Nat.pow_add,show j+(w-j)=w from by omega]
  have hm:y % 2 ^ (w-j)<2 ^ (w-j):=Nat.mod_lt _ (Nat.two_pow_pos _)
  have:2 ^ j*(y % 2 ^ (w-j)+1)<=2 ^ j*2 ^ (w-j):=Nat.mul_le_mul_left _ hm
  rw[Nat.mul_add,Nat.mul_one]at this
  omega
 have key:(a+y*2 ^ j) % 2 ^ w=2 ^ j*(y % 2 ^ (w-j))+a:=by
  have hw:2 ^ w=2 ^ j*2 ^ (w-j):=by rw[<-Nat.pow_add,show j+(w-j)=w from by omega]
  have hd:y=2 ^ (w-j)*(y/2 ^ (w-j))+y % 2 ^ (w-j):=(Nat.div_add_mod _ _).symm
  have:a+y*2 ^ j=(2 ^ j*(y % 2 ^ (w-j))+a)+2 ^ w*(y/2 ^ (w-j)):=by
   rw[hw]
   calc a+y*2 ^ j=a+(2 ^ (w-j)*(y/2 ^ (w-j))+y % 2 ^ (w-j))*2 ^ j:=by rw[<-hd]
    _=_:=by
     rw[Nat.add_mul,Nat.mul_comm (2 ^ (w-j)*(y/2 ^ (w-j))),<-Nat.mul_assoc,Nat.mul_comm (y % 2 ^ (w-j))]
     omega
  rw[this,Nat.add_mul_mod_self_left,Nat.mod_eq_of_lt hlt]
 have:=congrArg (λn:Nat=>(n:Int)) key
 push_cast at this ⊢
 rw[this]
theorem ofInt_wrap(k:IntKind)(x:Int):BitVec.ofInt k.bits (k.wrap x)=BitVec.ofInt k.bits x:=by
 apply BitVec.eq_of_toNat_eq
 rw[BitVec.toNat_ofInt,BitVec.toNat_ofInt]
 congr 1
 cases k <;> simp only[IntKind.wrap,IntKind.bits,IntKind.signed] <;> simp <;> omega
theorem afI(k:IntKind){x:Int}:k.wrap (x % 2 ^ k.bits)=k.wrap x:=by
 cases k <;> simp only[IntKind.wrap,IntKind.bits,IntKind.signed] <;> simp
theorem ac7{k:IntKind}{j:Nat}(hj:j<=k.bits){a y:Int}(h0:0<=a)(h1:a<2 ^ j)(hy:0<=y):ior k (k.wrap a) (ishl k y (j:Int))=k.wrap (a+y*2 ^ j):=by
 unfold ior ishl
 rw[Int.toNat_natCast,Nat.min_eq_left hj,ofInt_wrap,ofInt_wrap,afF k.bits j hj h0 h1 hy,afI]
theorem aoi(k:IntKind)(hk:7<k.bits)(e:Int):iand k e 127=e % 128:=abc (j:=7) (by decide) hk
theorem akw{l:List Int}{i:Nat}(h:i<l.length):l.take (i+1)=l.take i++[l[i]]:=by rw[List.take_succ_eq_append_getElem h]
theorem amS(i:Nat):(128:Int) ^ i=2 ^ (7*i):=by rw[Int.pow_mul];rfl
theorem af5{kd:IntKind}(hkd:kd = .u64∨kd = .i64)(f:Int×Int->Option ((Int×Int)⊕Int)){l:List Int}(hl:l.length<=10)
  (hf:∀ (n:Int) (i:Nat) (h:i<l.length),f (n,(i:Int))=some (.inl (ior kd n (ishl kd (l[i] % 128) ((7*i:Nat):Int)),((i+1:Nat):Int)))) (hs:∀ n:Int,f (n,(l.length:Int))=some (.inr n)) :
  ∀ (d i m:Nat),i+d=l.length->d<m->loopS f m (kd.wrap (valL (l.take i)),(i:Int))=some (kd.wrap (valL l))
 | 0,i,m,hi,hm=>by
  obtain⟨m,rfl⟩:∃ j,m=j+1:=⟨m-1,by omega⟩
  have:i=l.length:=by omega
  subst this
  rw[List.take_length,aan (hs _)]
 | d+1,i,m,hi,hm=>by
  obtain⟨m,rfl⟩:∃ j,m=j+1:=⟨m-1,by omega⟩
  have hlt:i<l.length:=by omega
  rw[aaF (hf _ i hlt)]
  have hb:7*i<=kd.bits:=by rcases hkd with rfl | rfl <;> simp only[IntKind.bits] <;> omega
  have hlen:(l.take i).length=i:=by rw[List.length_take];omega
  rw[ac7 hb (valL_nonneg _) (by have:=valL_lt (l.take i);rw[hlen,amS]at this;exact this) (Int.emod_nonneg _ (by decide))]
  have:valL (l.take i)+l[i] % 128*2 ^ (7*i)=valL (l.take (i+1)):=by rw[akw hlt,valL_snoc,hlen,amS]
  rw[this]
  exact af5 hkd f hl hf hs d (i+1) m (by omega) (by omega)
theorem ajQ{k:Nat}(hk:20<=k){l:List Int}(hb:By l)(hl:l.length<=10):bQ.f k l=some (IntKind.u64.wrap (valL l)):=by
 obtain⟨k,rfl⟩:∃ j,k=j+1:=⟨k-1,by omega⟩
 simp only[bQ.f]
 have:=af5 (kd:=.u64) (.inl rfl) (bQ.b3 k l) hl ?_ ?_ l.length 0 k (by omega) (by omega)
 ·have e:(IntKind.u64.wrap (valL (l.take 0)),((0:Nat):Int))=((0:Int),(0:Int)):=by simp[valL,wrap_u64]
  rw[e]at this
  rw[this];rfl
 ·intro n i h
  simp only[bQ.b3]
  rw[if_pos (by omega),at?_nat,List.getElem?_eq_getElem h]
  simp only[Option.bind_some]
  have e1:imul .i64 7 (i:Int)=((7*i:Nat):Int):=by rw[amV (by omega) (by omega)];omega
  rw[e1,if_pos (by omega),aoi .u8 (by decide),acv (by omega) (by omega),aah (by omega) (by omega)]
  rfl
 ·intro n
  simp only[bQ.b3]
  rw[if_neg (by omega)]
def rowOf(b:List Int)(a bits:Int):Option (List Int):=if bits<1∨bits>64∨a<0 then none else rowL (mostN bits) (b.drop a.toNat)
def afj(l:List Int):Int:=(l[l.length-1]?).getD 0
def agi(bits:Int):Nat:=(bits-(mostN bits:Int)*7+7).toNat
theorem ahQ{bits:Int}(h1:1<=bits)(h2:bits<=64):1<=agi bits/\agi bits<=7/\(agi bits:Int)=bits-(mostN bits:Int)*7+7:=by
 unfold agi mostN;omega
theorem ahu{bits:Int}(h1:1<=bits)(h2:bits<=64):1<=mostN bits/\mostN bits<=10:=by
 unfold mostN;omega
theorem aiE(b:List Int)(a bits:Int):aia b a bits=match rowOf b a bits with
  | none=>([],0,false)
  | some l=>(l,a+l.length,true):=by
 unfold aia rowOf
 by_cases h:bits<1∨bits>64∨a<0
 ·simp only[if_pos h]
 ·simp only[if_neg h] <;> (cases rowL (mostN bits) (List.drop a.toNat b) <;> rfl)
theorem rowOf_spec{b l:List Int}{a bits:Int}(hb:By b)(h:rowOf b a bits=some l):1<=bits/\bits<=64/\0<=a/\l.length<=mostN bits/\0<l.length/\l.length<=10/\l.length<=b.length/\a+l.length<=b.length/\By l/\0<=afj l/\afj l<128/\at? l ((l.length:Int)-1)=some (afj l)/\rowL (mostN bits) (b.drop a.toNat)=some l:=by
 unfold rowOf at h
 split at h
 ·cases h
 ·rename_i hc
  obtain⟨h1,h2,h3,h4,x,h5,h6⟩:=ael h
  have hm:=ahu (bits:=bits) (by omega) (by omega)
  have hby:By l:=λy hy=>by
   rw[h3]at hy
   exact hb y (List.mem_of_mem_drop (List.mem_of_mem_take hy))
  have hd:(b.drop a.toNat).length<=b.length:=by rw[List.length_drop];omega
  have hlast:afj l=x:=by unfold afj;rw[h5];rfl
  refine⟨by omega,by omega,by omega,h1,h2,by omega,by omega,?_,hby,?_,by omega,?_,h⟩
  ·rw[List.length_drop]at h4;omega
  ·rw[hlast];exact(hby x (List.mem_of_getElem? h5)).1
  ·rw[show((l.length:Int)-1)=((l.length-1:Nat):Int)from by omega,at?_nat,hlast,h5]
theorem ane{k:Nat}(hk:1<=k){bits:Int}(h1:1<=bits)(h2:bits<=64):er.f k bits=some (agi bits:Int):=by
 obtain⟨k,rfl⟩:∃ j,k=j+1:=⟨k-1,by omega⟩
 have hm:=ahu h1 h2
 have hl:=ahQ h1 h2
 simp only[er.f]
 have hm2:=(agG h1 h2).1
 rw[show(((bits+6)/7).toNat:Int)=(mostN bits:Int)from rfl]at hm2
 rw[hm2,amV (by omega) (by omega),aas (by omega) (by omega),aah (by omega) (by omega),hl.2.2]
theorem anq{k:Nat}(hk:1<=k){l:List Int}{bits:Int}(h1:1<=bits)(h2:bits<=64):ew.f k l bits=some (decide (l.length=mostN bits)):=by
 obtain⟨k,rfl⟩:∃ j,k=j+1:=⟨k-1,by omega⟩
 have hm2:=(agG h1 h2).1
 rw[show(((bits+6)/7).toNat:Int)=(mostN bits:Int)from rfl]at hm2
 simp only[ew.f]
 rw[hm2]
 congr 1
 rw[decide_eq_decide];omega
def readUV(b:List Int)(a bits:Int):Int×Int×Bool:=match rowOf b a bits with
 | none=>(0,0,false)
 | some l=>if l.length=mostN bits/\afj l/2 ^ agi bits≠0 then(0,0,false)else(IntKind.u64.wrap (valL l),a+l.length,true)
theorem readU_ok{k:Nat}(hk:30<=k){b:List Int}{a bits:Int}(hb:By b)(hl:b.length<=9007199254740992):dU.f k b a bits=some (readUV b a bits):=by
 obtain⟨k,rfl⟩:∃ j,k=j+1:=⟨k-1,by omega⟩
 simp only[dU.f]
 rw[alm (by omega) hb hl,aiE]
 unfold readUV
 cases hr:rowOf b a bits with
 | none=>simp[segB]
 | some l=>
  obtain⟨h1,h2,h3,h4,h5,h6,_,_,h7,h8,h9,h10,_⟩:=rowOf_spec hb hr
  obtain⟨n1,n2,n3⟩:=ahQ h1 h2
  simp only[Option.bind_some,Bool.not_true,Bool.false_eq_true,if_false]
  rw[anq (by omega) h1 h2]
  simp only[Option.bind_some,decide_eq_true_eq]
  have fin:∀ z:Option (Unit⊕(Int×Int×Bool)),z=some (.inl ())->segB z (λ_=>(bQ.f k l).bind λr43=>some (r43,a+l.length,true))=some (IntKind.u64.wrap (valL l),a+l.length,true):=by
   rintro z rfl
   simp only[segB]
   rw[ajQ (by omega) h7 h6]
   rfl
  by_cases hf:l.length=mostN bits
  ·rw[if_pos hf,aas (by omega) (by omega),h10]
   simp only[Option.bind_some]
   rw[ane (by omega) h1 h2]
   simp only[Option.bind_some]
   rw[if_pos (by omega),agQ (k:=.u8) (by simp only[IntKind.bits];omega)]
   by_cases hz:afj l/2 ^ agi bits=0
   ·rw[if_pos hz,if_neg (by simp[hz])]
    exact fin _ rfl
   ·rw[if_neg hz,if_pos ⟨hf,hz⟩]
    rfl
  ·rw[if_neg hf,if_neg (by simp[hf])]
   exact fin _ rfl
theorem anF{a b:Int}(h0:0<=a+b)(h1:a+b<=255):iadd .u8 a b=a+b:=akX ⟨h0,h1⟩
theorem afT(k:Nat):∀ (f:Nat) (n:Int) (l:List Int) (m:Nat),0<=n->n<18446744073709551616->n<128 ^ (f+1)->l.length+f<=1000->f+1<=m->loopS (dZ.b2 k) m (n,l)=some (runU f n l)
 | f,n,l,0,_,_,_,_,h=>by omega
 | 0,n,l,m+1,h0,h1,h2,_,_=>by
  have h:¬n≥128:=by simp at h2;omega
  rw[aan (o:=(n,l)) (by simp only[dZ.b2];rw[if_neg h])]
  rfl
 | f+1,n,l,m+1,h0,h1,h2,h3,h4=>by
  by_cases hn:n>127
  ·have e:runU (f+1) n l=runU f (n/128) (l++[n % 128+128]):=by simp[runU,hn]
   have e1:iadd .u8 (icv .u8 (irem .u64 n 128)) 128=n % 128+128:=by rw[an4 h0,amg (by omega) (by omega),anF (by omega) (by omega)]
   have e2:iquo .u64 n 128=n/128:=by
    unfold iquo
    rw[Int.tdiv_eq_ediv_of_nonneg h0]
    exact aa9 (k:=.u64) ⟨by omega,by omega⟩
   rw[e,aaF (v':=(n/128,l++[n % 128+128])) (by simp only[dZ.b2];rw[if_pos (by omega),if_pos (aab (by omega) (by omega)),e1,e2])]
   exact afT k f (n/128) _ m (by omega) (by omega) (by rw[Int.pow_succ]at h2;omega) (by simp;omega) (by omega)
  ·have e:runU (f+1) n l=(n,l):=by simp[runU,hn]
   rw[e,aan (by simp only[dZ.b2];rw[if_neg (by omega)])]
theorem refu_ok{k:Nat}(hk:20<=k){n:Int}(h0:0<=n)(h1:n<18446744073709551616):dZ.f k n=some (encU n):=by
 obtain⟨k,rfl⟩:∃ j,k=j+1:=⟨k-1,by omega⟩
 obtain⟨g1,g2,g3⟩:=adO 10 n [] h0 (by omega)
 simp only[dZ.f]
 rw[afT k 10 n [] k h0 h1 (by omega) (by simp) (by omega)]
 simp only[Option.bind_some]
 rw[if_pos (aab (by simp at g3;omega) (by simp at g3;omega)),amg g1 (by omega)]
 rfl
theorem By.app{l m:List Int}(h:By l)(g:By m):By (l++m):=λx hx=>(List.mem_append.1 hx).elim (h x) (g x)
theorem By.take{l:List Int}(h:By l)(n:Nat):By (l.take n):=λx hx=>h x (List.mem_of_mem_take hx)
theorem ahS:∀ (xs:List Int) (y:Int) (r:List Int) (m:Nat),(∀ x∈xs,¬x<128)->y<128->xs.length<m->rowL m (xs++y::r)=some (xs++[y])
 | [],y,r,0,_,_,h=>by simp at h
 | [],y,r,m+1,_,hy,_=>by simp[rowL,hy]
 | x::xs,y,r,0,_,_,h=>by simp at h
 | x::xs,y,r,m+1,hx,hy,h=>by
  simp only[List.cons_append,rowL]
  rw[if_neg (hx x (by simp)),ahS xs y r m (λz hz=>hx z (by simp[hz])) hy (by simp at h;omega)]
  rfl
theorem ahG:∀ (f:Nat) (n:Int) (l:List Int),0<=n->n<128 ^ (f+1)->(∀ x∈l,¬x<128)->∃ xs:List Int,(runU f n l).2=l++xs/\(∀ x∈xs,¬x<128/\x<256)/\valL (xs++[(runU f n l).1])=n/\0<=(runU f n l).1/\(runU f n l).1<128
 | 0,n,l,h0,h1,_=>⟨[],by simp[runU],by simp,by simp[runU,valL];simp at h1;omega,by simpa[runU]using h0,by simpa[runU]using h1⟩
 | f+1,n,l,h0,h1,hl=>by
  by_cases hn:n>127
  ·have e:runU (f+1) n l=runU f (n/128) (l++[n % 128+128]):=by simp[runU,hn]
   obtain⟨xs,g1,g2,g3,g4,g5⟩:=ahG f (n/128) (l++[n % 128+128]) (by omega) (by rw[Int.pow_succ]at h1;omega) (by
    intro x hx
    rcases List.mem_append.1 hx with hx | hx
    ·exact hl x hx
    ·simp at hx;omega)
   refine⟨(n % 128+128)::xs,by rw[e,g1];simp,?_,?_,by rw[e];exact g4,by rw[e];exact g5⟩
   ·intro x hx
    rcases List.mem_cons.1 hx with rfl | hx
    ·omega
    ·exact g2 x hx
   ·rw[e]
    simp only[List.cons_append,valL,g3]
    omega
  ·have e:runU (f+1) n l=(n,l):=by simp[runU,hn]
   rw[e]
   exact⟨[],by simp,by simp,by simp[valL];omega,h0,by omega⟩
theorem ah6{n:Int}(h0:0<=n)(h1:n<18446744073709551616):∃ (xs:List Int) (y:Int),encU n=xs++[y]/\(∀ x∈xs,¬x<128/\x<256)/\valL (xs++[y])=n/\0<=y/\y<128:=by
 obtain⟨xs,g1,g2,g3,g4,g5⟩:=ahG 10 n [] h0 (by omega) (by simp)
 exact⟨xs,_,by simp[encU,g1],g2,g3,g4,g5⟩
theorem afS:∀ (f d:Nat) (n:Int) (l:List Int),0<=n->n<128 ^ (f+1)->runU (f+d) n l=runU f n l
 | 0,0,n,l,h0,h1=>rfl
 | 0,d+1,n,l,h0,h1=>by
  have h:¬n>127:=by simp at h1;omega
  rw[Nat.zero_add];simp only[runU,if_neg h]
 | f+1,d,n,l,h0,h1=>by
  rw[show f+1+d=(f+d)+1 from by omega]
  by_cases hn:n>127
  ·simp only[runU,if_pos hn]
   exact afS f d (n/128) _ (by omega) (by rw[Int.pow_succ]at h1;omega)
  ·simp only[runU,if_neg hn]
theorem aez{n:Int}(f:Nat)(hf:f<=10)(h0:0<=n)(h1:n<128 ^ (f+1)):(encU n).length<=f+1:=by
 have e:=afS f (10-f) n [] h0 h1
 rw[show f+(10-f)=10 from by omega]at e
 have:=(adO f n [] h0 h1).2.2
 simp only[encU,e,List.length_append,List.length_cons,List.length_nil]at this ⊢
 omega
theorem encU_by{n:Int}(h0:0<=n)(h1:n<18446744073709551616):By (encU n)/\(encU n).length<=10:=by
 obtain⟨xs,y,e,hx,_,y0,y1⟩:=ah6 h0 h1
 refine⟨λx hm=>?_,aez 9 (by omega) h0 (by omega)⟩
 have:0<=x/\x<=255:=by
  rw[e]at hm
  rcases List.mem_append.1 hm with hm | hm
  ·have:=hx x hm;omega
  ·simp at hm;omega
 exact this
theorem al4(xs:List Int)(y:Int)(hy:0<=y)(hy1:y<128):valL (xs++[y])/128 ^ xs.length=y:=by
 rw[valL_snoc,Int.emod_eq_of_lt hy hy1,Int.add_mul_ediv_right _ _ (Int.ne_of_gt (Int.pow_pos (by decide))),Int.ediv_eq_zero_of_lt (valL_nonneg _) (valL_lt _)]
 omega
theorem ajl{b xs:List Int}{y:Int}(r:List Int)(hx:∀ x∈xs,¬x<128)(hy:y<128)(hl:xs.length<5):rowOf (b++(xs++y::r)) (b.length:Int) 32=some (xs++[y]):=by
 unfold rowOf
 rw[if_neg (by omega),Int.toNat_natCast,List.drop_left]
 have hm:mostN 32=5:=by decide
 exact ahS xs y r _ hx hy (by omega)
theorem aim(xs:List Int)(y:Int):afj (xs++[y])=y:=by
 unfold afj
 simp
theorem aiz{b:List Int}{n:Int}(r:List Int){xs:List Int}{y:Int}(hx:∀ x∈xs,¬x<128)(hy0:0<=y)(hy:y<128)(hl:xs.length<5)(hv:valL (xs++[y])=n)(hn:n<4294967296) :
  readUV (b++(xs++y::r)) (b.length:Int) 32=(n,((b.length+(xs.length+1):Nat):Int),true):=by
 unfold readUV
 rw[ajl r hx hy hl]
 simp only
 rw[if_neg]
 ·have h0:=valL_nonneg (xs++[y])
  rw[hv,wrap_u64,Int.emod_eq_of_lt (by omega) (by omega)]
  simp
 ·rintro ⟨h1,h2⟩
  apply h2
  rw[aim]
  have hm:mostN 32=5:=by decide
  have hln:agi 32=4:=by decide
  simp only[List.length_append,List.length_cons,List.length_nil,hm]at h1
  have h9:xs.length=4:=by omega
  have:=al4 xs y hy0 hy
  rw[hv,h9]at this
  have hp:(128:Int) ^ 4=268435456:=by decide
  rw[hp]at this
  rw[hln]
  omega
theorem readU_enc{b r:List Int}{n:Int}(h0:0<=n)(hn:n<4294967296):readUV (b++(encU n++r)) (b.length:Int) 32=(n,((b.length+(encU n).length:Nat):Int),true):=by
 obtain⟨xs,y,e,hx,hv,y0,y1⟩:=ah6 h0 (by omega)
 have hl:=aez (n:=n) 4 (by omega) h0 (by omega)
 rw[e,List.length_append,List.length_cons,List.length_nil]at hl
 rw[e,List.append_assoc,List.length_append,List.length_cons,List.length_nil]
 exact aiz r (λx hm=>(hx x hm).1) y0 y1 (by omega) hv hn
end Go.R4.Lb

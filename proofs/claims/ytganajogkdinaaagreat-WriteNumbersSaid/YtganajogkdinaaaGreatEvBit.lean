import Derived.Test.YtganajogkdinaaaGreatEvInt
set_option linter.all false
namespace Go.Ev
theorem wrap_u64(n:Int):IntKind.u64.wrap n=n % 18446744073709551616:=by
 simp[IntKind.wrap,IntKind.bits,IntKind.signed]
theorem ior_comm(k:IntKind)(a b:Int):ior k a b=ior k b a:=by unfold ior;rw[BitVec.or_comm]
theorem ald(w j:Nat)(hj:j<=w){a y:Int}(h0:0<=a)(h1:a<2 ^ j)(hy:0<=y):((BitVec.ofInt w a ||| BitVec.ofInt w (y*2 ^ j)).toNat:Int)=(a+y*2 ^ j) % 2 ^ w:=by
 obtain⟨a,rfl⟩:∃ n:Nat,a=n:=⟨a.toNat,by omega⟩
 obtain⟨y,rfl⟩:∃ n:Nat,y=n:=⟨y.toNat,by omega⟩
 have h1':a<2 ^ j:=by exact_mod_cast h1
 have hle:2 ^ j<=2 ^ w:=Nat.pow_le_pow_right (by decide) hj
 have e1:(BitVec.ofInt w (a:Int)).toNat=a:=by
  rw[BitVec.ofInt_natCast,BitVec.toNat_ofNat,Nat.mod_eq_of_lt (by omega)]
 have e2:(BitVec.ofInt w ((y:Int)*2 ^ j)).toNat=2 ^ j*(y % 2 ^ (w-j)):=by
  have:((y:Int)*2 ^ j)=((y*2 ^ j:Nat):Int):=by push_cast;rfl
  rw[this,BitVec.ofInt_natCast,BitVec.toNat_ofNat]
  have hw:2 ^ w=2 ^ (w-j)*2 ^ j:=by rw[<-Nat.pow_add,show w-j+j=w from by omega]
  rw[hw,Nat.mul_mod_mul_right,Nat.mul_comm]
 rw[BitVec.toNat_or,e1,e2,Nat.or_comm,<-Nat.two_pow_add_eq_or_of_lt h1']
 have hlt:2 ^ j*(y % 2 ^ (w-j))+a<2 ^ w:=by
  have hw:2 ^ w=2 ^ j*2 ^ (w-j):=by rw[<-Nat.pow_add,show j+(w-j)=w from by omega]
  have hm:y % 2 ^ (w-j)<2 ^ (w-j):=Nat.mod_lt _ (Nat.two_pow_pos _)
  have:2 ^ j*(y % 2 ^ (w-j)+1)<=2 ^ j*2 ^ (w-j):=Nat.mul_le_mul_left _ hm
  rw[Nat.mul_add,Nat.mul_one]at this
  omega
 have key:(a+y*2 ^ j) % 2 ^ w=2 ^ j*(y % 2 ^ (w-j))+a:=by
  have hw:2 ^ w=2 ^ j*2 ^ (w-j):=by rw[<-Nat.pow_add,show j+(w-j)=w from by omega]
  have hd:y=2 ^ (w-j)*(y/2 ^ (w-j))+y % 2 ^ (w-j):=(Nat.div_add_mod _ _).symm
  have:a+y*2 ^ j=(2 ^ j*(y % 2 ^ (w-j))+a)+2 ^ w*(y/2 ^ (w-j)):=by
   rw[hw]
   calc a+y*2 ^ j=a+(2 ^ (w-j)*(y/2 ^ (w-j))+y % 2 ^ (w-j))*2 ^ j:=by rw[<-hd]
    _=_:=by
     rw[Nat.add_mul,Nat.mul_comm (2 ^ (w-j)*(y/2 ^ (w-j))),<-Nat.mul_assoc,Nat.mul_comm (y % 2 ^ (w-j))]
     omega
  rw[this,Nat.add_mul_mod_self_left,Nat.mod_eq_of_lt hlt]
 have:=congrArg (λn:Nat=>(n:Int)) key
 push_cast at this ⊢
 rw[this]
theorem ofInt_wrap(k:IntKind)(x:Int):BitVec.ofInt k.bits (k.wrap x)=BitVec.ofInt k.bits x:=by
 apply BitVec.eq_of_toNat_eq
 rw[BitVec.toNat_ofInt,BitVec.toNat_ofInt]
 congr 1
 cases k <;> simp only[IntKind.wrap,IntKind.bits,IntKind.signed] <;> simp <;> omega
theorem alE(k:IntKind){x:Int}:k.wrap (x % 2 ^ k.bits)=k.wrap x:=by
 cases k <;> simp only[IntKind.wrap,IntKind.bits,IntKind.signed] <;> simp
theorem afA{k:IntKind}{j:Nat}(hj:j<=k.bits){a y:Int}(h0:0<=a)(h1:a<2 ^ j)(hy:0<=y):ior k (k.wrap a) (ishl k y (j:Int))=k.wrap (a+y*2 ^ j):=by
 unfold ior ishl
 rw[Int.toNat_natCast,Nat.min_eq_left hj,ofInt_wrap,ofInt_wrap,ald k.bits j hj h0 h1 hy,alE]
end Go.Ev

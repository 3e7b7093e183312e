import Derived.Test.YtganajogkdinaaaGreatEvRd
set_option linter.all false
namespace Go.Ev
theorem ab0{i j:Nat}(h:i<=j):(2:Int) ^ i<=2 ^ j:=by exact_mod_cast Nat.pow_le_pow_right (by decide:0<2) h
theorem afW{k:IntKind}{n:Int}(h:inR k n):icv k n=n:=abe h
theorem aky{k:IntKind}{a b:Int}(h:inR k (a+b)):iadd k a b=a+b:=abe h
theorem anL{k:IntKind}{a b:Int}(h:inR k (a-b)):isub k a b=a-b:=abe h
theorem aoh{k:IntKind}{a b:Int}(h:inR k (a*b)):imul k a b=a*b:=abe h
theorem aai{a b:Int}(h0:-9223372036854775808<=a+b)(h1:a+b<=9223372036854775807):iadd .i64 a b=a+b:=aky ⟨h0,h1⟩
theorem aap{a b:Int}(h0:-9223372036854775808<=a-b)(h1:a-b<=9223372036854775807):isub .i64 a b=a-b:=anL ⟨h0,h1⟩
theorem apl{a:Int}(h0:-9223372036854775808<=a)(h1:a<=9223372036854775807):icv .i64 a=a:=afW ⟨h0,h1⟩
theorem acR{a:Int}(h0:0<=a)(h1:a<=18446744073709551615):icv .u64 a=a:=afW ⟨h0,h1⟩
theorem aef{a:Int}(h0:0<=a)(h1:a<=255):icv .u8 a=a:=afW ⟨h0,h1⟩
theorem anF{k:IntKind}{a b:Int}(ha:0<=a):irem k a b=a % b:=by
  unfold irem
  rw[Int.tmod_eq_emod_of_nonneg ha]
theorem adu{k:IntKind}{a:Int}{j:Nat}(hj:j<=k.bits):ishr k a (j:Int)=a/2 ^ j:=by
  unfold ishr
  rw[Int.toNat_natCast,Nat.min_eq_left hj,Int.fdiv_eq_ediv_of_nonneg _ (Int.le_of_lt (Int.pow_pos (by decide)))]
theorem amk(w:Nat)(n:Int){j:Nat}(hj:j<=w):((BitVec.ofInt w n &&& BitVec.ofInt w (2 ^ j-1)).toNat:Int)=n % 2 ^ j:=by
  have hp:(1:Nat)<=2 ^ j:=Nat.one_le_two_pow
  have hw:0<2 ^ w:=Nat.two_pow_pos w
  have hp2:2 ^ j<=2 ^ w:=Nat.pow_le_pow_right (by omega) hj
  have hm:(BitVec.ofInt w (2 ^ j-1)).toNat=2 ^ j-1:=by
    rw[BitVec.toNat_ofInt]
    have h1:((2:Int) ^ j-1)=((2 ^ j-1:Nat):Int):=by push_cast [hp];rfl
    rw[h1,Int.emod_eq_of_lt (by omega) (by have:(2:Int)^j<=2^w:=(by exact_mod_cast hp2);push_cast [hp];omega),Int.toNat_natCast]
  rw[BitVec.toNat_and,hm,Nat.and_two_pow_sub_one_eq_mod,BitVec.toNat_ofInt]
  push_cast
  rw[Int.toNat_of_nonneg (Int.emod_nonneg _ (by exact_mod_cast Nat.ne_of_gt hw))]
  push_cast
  exact Int.emod_emod_of_dvd _ ⟨2 ^ (w-j),by rw[<-Int.pow_add,show j+(w-j)=w from by omega]⟩
theorem abv{k:IntKind}{n m:Int}{j:Nat}(hm:m=2 ^ j-1)(hj:j<k.bits):iand k n m=n % 2 ^ j:=by
  unfold iand
  subst hm
  rw[amk k.bits n (Nat.le_of_lt hj)]
  have h0:=Int.emod_nonneg n (b:=2 ^ j) (Int.ne_of_gt (Int.pow_pos (by decide)))
  have h1:=Int.emod_lt_of_pos n (b:=2 ^ j) (Int.pow_pos (by decide))
  apply abe
  cases k <;> simp only[IntKind.bits]at hj <;> simp only[inR]
  case i8=>
    have:(2:Int)^j<=2^7:=ab0 (by omega)
    omega
  case i16=>
    have:(2:Int)^j<=2^15:=ab0 (by omega)
    omega
  case i32=>
    have:(2:Int)^j<=2^31:=ab0 (by omega)
    omega
  case i64=>
    have:(2:Int)^j<=2^63:=ab0 (by omega)
    omega
  case u8=>
    have:(2:Int)^j<=2^8:=ab0 (by omega)
    omega
  case u16=>
    have:(2:Int)^j<=2^16:=ab0 (by omega)
    omega
  case u32=>
    have:(2:Int)^j<=2^32:=ab0 (by omega)
    omega
  case u64=>
    have:(2:Int)^j<=2^64:=ab0 (by omega)
    omega
theorem amN{x:Int}(h0:0<=x)(h1:x<128):ior .u8 x 128=x+128:=apq h0 h1
theorem aaB{V O:Type}{f:V->Option (V⊕O)}{m:Nat}{v v':V}(h:f v=some (.inl v')):loopS f (m+1) v=loopS f m v':=by simp only[loopS,h]
theorem aan{V O:Type}{f:V->Option (V⊕O)}{m:Nat}{v:V}{o:O}(h:f v=some (.inr o)):loopS f (m+1) v=some o:=by simp only[loopS,h]
end Go.Ev

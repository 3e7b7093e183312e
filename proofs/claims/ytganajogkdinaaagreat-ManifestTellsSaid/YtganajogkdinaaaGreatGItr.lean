import Derived.Test.YtganajogkdinaaaGreatRows
import Derived.Test.YtganajogkdinaaaGreatEvShort
import Derived.Test.YtganajogkdinaaaGreatEvIter
set_option linter.all false
namespace Go.R4
open Go.Proofs Go.Ev
def itB:List FV->Option (Bool×List (List A))
 | [.ref [.sl sz els _]]=>bif Nat.beq sz 2 then some (aiy els,rowsB els)else none
 |_=>none
def itC:List FV->Option (Bool×List (List A))
 | [.ref [.sl sz els _],.ref [.int .i64 n]]=>bif Nat.beq sz 2 then some (shortC n els,ab4 sz n els)else none
 |_=>none
instance mItr:Itr:=⟨λf caps=>bif Nat.beq f 220 then itB caps else bif Nat.beq f 317 then itC caps else none⟩
end Go.R4

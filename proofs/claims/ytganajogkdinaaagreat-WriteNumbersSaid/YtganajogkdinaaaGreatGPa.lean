import Derived.Test.YtganajogkdinaaaGreatSortR4
import Derived.Test.YtganajogkdinaaaGreatEvShort
import Derived.KernelRfl
set_option linter.all false
namespace Go.R4
open Go.Proofs Go.Ev
set_option maxRecDepth 100000
structure ag where
 Op:Int
 A:Int
 B:Int
 N:Int
 L:List Int
def ag.e(x:ag):List FV:=[.i x.Op,.i x.A,.i x.B,.int .u64 x.N,.l 1 (eI .i64) x.L]
structure eN where
 What:Int
 At:Int
 To:Int
 N:Int
 Raw:ag
def eN.e(x:eN):List FV:=[.i x.What,.i x.At,.i x.To,.int .u64 x.N,.i x.Raw.Op,.i x.Raw.A,.i x.Raw.B,.int .u64 x.Raw.N,.l 1 (eI .i64) x.Raw.L]
structure af where
 Params:List Int
 Results:List Int
def af.e(x:af):List FV:=[.l 1 (eI .i64) x.Params,.l 1 (eI .i64) x.Results]
structure ak where
 Module:ByteArray
 Name:ByteArray
 fType:Int
def ak.e(x:ak):List FV:=[.str x.Module,.str x.Name,.i x.fType]
structure aj where
 fType:Int
 Locals:List Int
 Code:List ag
def aj.e(x:aj):List FV:=[.i x.fType,.l 1 (eI .i64) x.Locals,.l 5 ag.e x.Code]
structure au where
 Min:Int
 Max:Int
def au.e(x:au):List FV:=[.i x.Min,.i x.Max]
structure ai where
 fType:Int
 Var:Bool
 Init:Int
def ai.e(x:ai):List FV:=[.i x.fType,.bool x.Var,.int .u64 x.Init]
structure ae where
 Name:ByteArray
 Kind:Int
 Index:Int
def ae.e(x:ae):List FV:=[.str x.Name,.i x.Kind,.i x.Index]
structure aA where
 Active:Bool
 Mem:Int
 At:Int
 Bytes:List Int
def aA.e(x:aA):List FV:=[.bool x.Active,.i x.Mem,.i x.At,.l 1 (eI .u8) x.Bytes]
structure aI where
 Name:ByteArray
 Bytes:List Int
def aI.e(x:aI):List FV:=[.str x.Name,.l 1 (eI .u8) x.Bytes]
structure an where
 Types:List af
 Imports:List ak
 Funcs:List aj
 Mems:List au
 Globals:List ai
 Exports:List ae
 Datas:List aA
 Customs:List aI
def an.e(x:an):List FV:=[.l 2 af.e x.Types,.l 3 ak.e x.Imports,.l 3 aj.e x.Funcs,.l 2 au.e x.Mems,.l 3 ai.e x.Globals,.l 3 ae.e x.Exports,.l 4 aA.e x.Datas,.l 2 aI.e x.Customs]
structure aG where
 mask:Int
 mark:Int
 more:Int
 least:Int
def aG.e(x:aG):List FV:=[.int .u8 x.mask,.int .u8 x.mark,.i x.more,.int .u32 x.least]
structure am where
 a:Bool
 b:Bool
 n:Bool
 l:Bool
def am.e(x:am):List FV:=[.bool x.a,.bool x.b,.bool x.n,.bool x.l]
structure ah where
 At:Int
 Else:Int
 End:Int
def ah.e(x:ah):List FV:=[.i x.At,.i x.Else,.i x.End]
structure ab where
 At:Int
 Else:Int
 End:Int
def ab.e(x:ab):List FV:=[.i x.At,.i x.Else,.i x.End]
def ah.t3(x:ah):T3:=(x.At,x.Else,x.End)
def ann:FuncId->Ann:=λf id=>match f with
 | 6=>(match id with
  | 3000001=>[.stop 2,.frz 16,.nrm 16 [some 2,some 3,some 3,some 2,some 3,some 3,some 4,some 2]]
  | 3000002=>[.stop 3,.frz 19,.nrm 19 [some 2,some 3,some 3,some 2,some 3,some 3,some 4,some 2]]
  |_=>[])
 | 10=>(match id with
  | 2=>[.keep [1]]
  | 5=>[.keep [1,17,18,19]]
  | 8=>[.keep [1,3,17,18,19,23,24,25]]
  | 11=>[.keep [1,3,5,17,18,19,23,24,25,33,34,35]]
  | 14=>[.nrmP 8 [none,none,none,none,some 1]]
  | 16=>[.keep [1,3,5,8,17,18,19,23,24,25,33,34,35]]
  | 19=>[.keep [1,3,5,17,18,19,23,24,25,33,34,35]]
  | 26=>[.keep [10]]
  | 30=>[.own 11 1,.keep [10,11,12]]
  | 33=>[.frz 11]
  | 1000002=>[.keep [0]]
  | 1000005=>[.keep [0,1]]
  | 1000008=>[.keep [0,1,17,18,19]]
  | 1000011=>[.keep [0,1,3,17,18,19,23,24,25]]
  | 1000026=>[.keep [0]]
  | 1000030=>[.keep [10,11]]
  | 3000022=>[.stop 1,.frz 78]
  | 3000033=>[.stop 2,.frz 106,.nrm 106 [some 2,some 3,some 3,some 2,some 3,some 3,some 4,some 2]]
  |_=>[])
 | 11=>(match id with
  | 3000001=>[.stop 2,.frz 9,.nrm 9 [some 2,some 3,some 3,some 2,some 3,some 3,some 4,some 2]]
  |_=>[])
 | 12=>(match id with
  | 3=>[.keep [1,2,7,18,19,20]]
  | 12=>[.keep [2,7,11,12]]
  | 1000003=>[.keep [2,6,7]]
  | 3000001=>[.stop 2,.frz 16,.nrm 16 [some 2,some 3,some 3,some 2,some 3,some 3,some 4,some 2]]
  | 3000012=>[.stop 3,.frz 81]
  |_=>[])
 | 15=>(match id with
  | 3=>[.frzC 4 0]
  | 4=>[.frzC 4 1]
  | 5=>[.frzC 4 4]
  | 7=>[.ownC 4 3 2,.keep [2,3,4,5,6]]
  | 12=>[.frzC 4 6]
  | 13=>[.ownC 4 5 3,.nrmP 4 [none,none,none,none,none,none,some 4,none],.keep [2,3,4]]
  | 15=>[.ownC 4 2 3,.keep [2,3,4,7,8]]
  | 19=>[.ownC 9 1 1,.keep [2,3,4,7,8,9,10]]
  | 26=>[.keep [2,3,4,7,11]]
  | 31=>[.ownC 12 12 1,.ownC 12 14 5]
  | 33=>[.keep [2,3,4,7,11,12]]
  | 34=>[.frzC 12 14]
  | 1000007=>[.keep [2,3,4,5]]
  | 1000015=>[.keep [2,3,4,7]]
  | 1000019=>[.keep [2,3,4,7,8,9]]
  | 1000026=>[.keep [2,4]]
  | 3000022=>[.stop 3,.frz 102]
  |_=>[])
 | 16=>(match id with
  | 5000016=>[.cls 78]
  |_=>[])
 | 28=>(match id with
  | 7=>[.keep [1,3,4,5,6,7]]
  | 9=>[.keep [1,4,5,6]]
  | 12=>[.keep [1,4,5,6,8]]
  | 14=>[.keep [1,5,6]]
  | 16=>[.keep [1,6]]
  | 19=>[.keep [1,9]]
  | 1000019=>[.keep [1,2]]
  |_=>[])
 | 29=>(match id with
  | 0=>[.frz 0,.frz 1]
  | 2=>[.keep [1,2,4,5]]
  | 1000002=>[.keep [2,4]]
  |_=>[])
 | 30=>(match id with
  | 2000006=>[.keep [1,6]]
  |_=>[])
 | 38=>(match id with
  | 3=>[.keep [0,1,2]]
  |_=>[])
 | 43=>(match id with
  | 3=>[.own 3 1,.keep [3,6,7,8]]
  | 8=>[.keep [3,5,6,7,8]]
  | 1000003=>[.keep [3]]
  |_=>[])
 | 44=>(match id with
  | 3=>[.own 3 1,.keep [0,3,4]]
  | 1000003=>[.keep [3]]
  |_=>[])
 | 46=>(match id with
  | 3000001=>[.stop 1,.nrm 6 [some 2,some 3,some 3,some 2,some 3,some 3,some 4,some 2]]
  | 3000002=>[.stop 5,.frz 15,.nrm 15 [some 2,some 3,some 3,some 2,some 3,some 3,some 4,some 2]]
  |_=>[])
 | 47=>(match id with
  | 5=>[.keep [1,18,19,20]]
  | 20=>[.keep [1,9]]
  | 23=>[.keep [9,99,100,101]]
  | 1000005=>[.keep [1,2,3]]
  | 1000023=>[.keep [9]]
  | 3000029=>[.stop 2,.trim 119]
  |_=>[])
 | 48=>(match id with
  | 10=>[.own 7 1,.keep [1,6,7,28,29,30]]
  | 17=>[.own 7 1,.keep [1,6,7,54,55,56]]
  | 24=>[.own 7 1,.keep [1,6,7,84,85,86]]
  | 31=>[.own 7 1,.keep [1,6,7,104,105,106]]
  | 1000010=>[.keep [1,6,7]]
  | 1000017=>[.keep [1,6,7]]
  | 1000024=>[.keep [1,6,7]]
  | 1000031=>[.keep [1,6,7]]
  |_=>[])
 | 56=>(match id with
  | 6=>[.keep [2,4,6]]
  | 2000015=>[.keep [1,2,4,6,15]]
  | 2000034=>[.keep [1,2,4,6,34]]
  |_=>[])
 | 57=>(match id with
  | 2=>[.mvC 0 12,.mvC 0 14,.mvC 0 13,.keep [0,1,2,7]]
  | 1000002=>[.keep [6]]
  |_=>[])
 | 58=>(match id with
  | 1=>[.mvC 0 12,.mvC 0 14,.keep [0,1,2]]
  | 5=>[.keep [0,1,6]]
  | 1000001=>[.keep [0,1]]
  | 1000005=>[.keep [0]]
  | 3000003=>[.trimC 0 12]
  |_=>[])
 | 86=>(match id with
  | 0=>[.frz 0]
  |_=>[])
 | 88=>(match id with
  | 2000061=>[.keep [1,2,60,61]]
  | 2000087=>[.keep [1,2,60,87]]
  | 2000094=>[.keep [1,2,60,94]]
  | 2000102=>[.keep [1,2,60,102]]
  | 2000109=>[.keep [1,2,60,109]]
  |_=>[])
 | 89=>(match id with
  | 2000010=>[.keep [0,9,10]]
  |_=>[])
 | 90=>(match id with
  | 2000022=>[.keep [0,22]]
  |_=>[])
 | 91=>(match id with
  | 2000015=>[.keep [0,6,15]]
  | 2000046=>[.keep [0,46]]
  |_=>[])
 | 93=>(match id with
  | 2000006=>[.keep [0,6]]
  | 2000011=>[.keep [0,11]]
  | 2000016=>[.keep [0,16]]
  | 2000023=>[.keep [0,23]]
  |_=>[])
 | 95=>(match id with
  | 2000027=>[.keep [2,3,4,5,27]]
  | 3000014=>[.stop 6,.frz 76]
  | 5000004=>[.cls 6]
  | 5000020=>[.cls 130]
  | 5000024=>[.cls 168]
  | 5000030=>[.cls 8]
  |_=>[])
 | 103=>(match id with
  | 3=>[.keep [3,8,9,10]]
  | 9=>[.keep [3,8,9,10]]
  | 1000003=>[.keep [2]]
  |_=>[])
 | 114=>(match id with
  | 4=>[.keep [1,3]]
  |_=>[])
 | 115=>(match id with
  | 2=>[.keep [1,16,17,18]]
  | 8=>[.keep [1,34,35,36]]
  | 14=>[.keep [1,58,59,60]]
  | 19=>[.keep [1,58,59,60,81,82,83]]
  | 26=>[.keep [1,93,94,95]]
  | 32=>[.keep [116,117,118]]
  | 36=>[.keep [116,117,118]]
  | 1000002=>[.keep [1,2]]
  | 1000008=>[.keep [1,2]]
  | 1000014=>[.keep [1,2]]
  | 1000019=>[.keep [1,2,58,59,60]]
  | 1000026=>[.keep [1,2]]
  | 1000032=>[.keep [2]]
  |_=>[])
 | 116=>(match id with
  | 2=>[.keep [1,11,12,13]]
  | 6=>[.keep [1,3,4,11,12,13]]
  | 7=>[.keep [1,3,4,5,11,12,13]]
  | 13=>[.keep [1,59,60,61]]
  | 17=>[.keep [1,59,60,61]]
  | 19=>[.keep [102,103,104]]
  | 1000002=>[.keep [1,2]]
  | 1000007=>[.keep [1,2,11,12,13]]
  | 1000013=>[.keep [1,2]]
  | 1000019=>[.keep [2]]
  |_=>[])
 | 132=>(match id with
  | 2=>[.keep [1,3]]
  | 1000002=>[.keep [2]]
  |_=>[])
 | 136=>(match id with
  | 2000041=>[.keep [1,40,41]]
  |_=>[])
 | 137=>(match id with
  | 6=>[.keep [1,3]]
  | 12=>[.keep [1,3,7]]
  | 1000012=>[.keep [3]]
  | 2000073=>[.keep [1,3,4,73]]
  | 2000135=>[.keep [1,3,135]]
  |_=>[])
 | 138=>(match id with
  | 5=>[.ownC 4 0 3,.ownC 4 1 3,.keep [0,4,12,13]]
  | 9=>[.ownC 4 0 3,.ownC 4 1 3,.keep [0,4,12,13]]
  | 1000005=>[.keep [2,3,4]]
  |_=>[])
 | 140=>(match id with
  | 5=>[.keep [1,5,14,15,16]]
  | 1000005=>[.keep [5]]
  |_=>[])
 | 142=>(match id with
  | 0=>[.frz 0]
  | 3=>[.keep [0,3,9,10,11]]
  | 11=>[.keep [6,25,26,27]]
  | 15=>[.trim 6]
  | 1000003=>[.keep [0,3]]
  | 1000011=>[.keep [6]]
  |_=>[])
 | 143=>(match id with
  | 3=>[.own 3 1,.keep [0,3,6,7,8]]
  | 1000003=>[.keep [0,3]]
  |_=>[])
 | 144=>(match id with
  | 5=>[.keep [1,5,14,15,16]]
  | 1000005=>[.keep [5]]
  |_=>[])
 | 147=>(match id with
  | 5=>[.keep [1,5,14,15,16]]
  | 1000005=>[.keep [5]]
  |_=>[])
 | 149=>(match id with
  | 5=>[.keep [1,5,14,15,16]]
  | 1000005=>[.keep [5]]
  |_=>[])
 | 151=>(match id with
  | 5=>[.keep [1,5,14,15,16]]
  | 1000005=>[.keep [5]]
  |_=>[])
 | 152=>(match id with
  | 4=>[.keep [1,3]]
  |_=>[])
 | 153=>(match id with
  | 5=>[.keep [1,5,14,15,16]]
  | 1000005=>[.keep [5]]
  |_=>[])
 | 157=>(match id with
  | 5=>[.keep [1,5,14,15,16]]
  | 1000005=>[.keep [5]]
  |_=>[])
 | 160=>(match id with
  | 3=>[.keep [0,3,4]]
  | 1000003=>[.keep [3]]
  |_=>[])
 | 164=>(match id with
  | 3=>[.own 4 1,.keep [1,3,4,20,21,22]]
  | 8=>[.keep [1,3,4,6,7,20,21,22]]
  | 13=>[.own 4 1,.keep [1,3,4,50,51,52]]
  | 21=>[.keep [1,3]]
  | 23=>[.own 4 1,.keep [1,3,4,100,101,102]]
  | 31=>[.own 4 1,.keep [1,3,4,129,130,131]]
  | 37=>[.keep [3,148,149,150]]
  | 1000003=>[.keep [1,3,4]]
  | 1000013=>[.keep [1,3,4]]
  | 1000023=>[.keep [1,3,4]]
  | 1000031=>[.keep [1,3,4]]
  | 1000037=>[.keep [3]]
  | 2000085=>[.keep [1,3,85]]
  |_=>[])
 | 170=>(match id with
  | 2=>[.own 3 1,.keep [0,3]]
  | 1000002=>[.keep [0,3]]
  |_=>[])
 | 171=>(match id with
  | 2000043=>[.keep [0,1,18,43]]
  | 2000171=>[.keep [0,1,18,171]]
  | 2000182=>[.keep [0,1,18,182]]
  |_=>[])
 | 172=>(match id with
  | 4=>[.keep [0,1,7]]
  | 1000004=>[.keep [6]]
  |_=>[])
 | 173=>(match id with
  | 3=>[.keep [0,1,4]]
  | 11=>[.keep [0,1,6]]
  | 16=>[.keep [0,1]]
  | 1000003=>[.keep [0,1]]
  | 1000011=>[.keep [0,1]]
  |_=>[])
 | 177=>(match id with
  | 2000007=>[.keep [6,7]]
  | 2000010=>[.keep [6,10]]
  | 2000013=>[.keep [6,13]]
  | 2000018=>[.keep [6,18]]
  | 2000023=>[.keep [6,23]]
  | 2000028=>[.keep [6,28]]
  | 2000033=>[.keep [6,33]]
  | 2000038=>[.keep [6,38]]
  |_=>[])
 | 183=>(match id with
  | 2000004=>[.keep [0,3,4]]
  |_=>[])
 | 184=>(match id with
  | 26=>[.keep [0,5,6,7]]
  | 2000008=>[.keep [0,5,6,7,8]]
  | 2000024=>[.keep [0,5,6,7,24]]
  | 2000043=>[.keep [0,5,6,7,43]]
  | 2000055=>[.keep [0,5,6,7,55]]
  | 2000067=>[.keep [0,5,6,7,67]]
  | 2000086=>[.keep [0,5,6,7,86]]
  | 2000098=>[.keep [0,5,6,7,98]]
  | 2000117=>[.keep [0,5,6,7,117]]
  | 2000129=>[.keep [0,5,6,7,129]]
  | 2000159=>[.keep [5,6,7,152,159]]
  | 2000166=>[.keep [5,6,7,152,166]]
  | 2000175=>[.keep [5,6,7,152,175]]
  | 2000185=>[.keep [5,6,7,152,185]]
  |_=>[])
 | 185=>(match id with
  | 28=>[.keep [0,5]]
  | 42=>[.keep [0,5,6]]
  | 2000008=>[.keep [0,5,7,8]]
  | 2000015=>[.keep [0,5,7,15]]
  | 2000022=>[.keep [0,5,7,22]]
  | 2000028=>[.keep [0,5,7,28]]
  | 2000034=>[.keep [0,5,6,33,34]]
  | 2000043=>[.keep [0,5,6,33,43]]
  |_=>[])
 | 188=>(match id with
  | 3000008=>[.trim 4]
  |_=>[])
 | 207=>(match id with
  | 2=>[.keep [0,1,5]]
  | 1000002=>[.keep [0,1,4]]
  |_=>[])
 | 221=>(match id with
  | 5=>[.own 4 3,.own 5 1,.keep [0,4,5,6,7]]
  | 6=>[.own 4 3,.own 5 1,.keep [0,4,5,6,7]]
  | 1000005=>[.own 2 3,.keep [2,3]]
  | 2000075=>[.keep [0,4,5,6,7,8,75]]
  | 3000027=>[.stop 6,.trim 5]
  |_=>[])
 | 226=>(match id with
  | 2=>[.own 3 1,.keep [0,3]]
  | 1000002=>[.keep [0,3]]
  |_=>[])
 | 228=>(match id with
  | 4=>[.keep [2,5]]
  |_=>[])
 | 229=>(match id with
  | 8=>[.own 3 1,.keep [1,3,19]]
  | 1000008=>[.keep [3]]
  |_=>[])
 | 230=>(match id with
  | 3=>[.own 3 1,.keep [0,3,6,7,8]]
  | 1000003=>[.keep [0,3]]
  |_=>[])
 | 233=>(match id with
  | 2=>[.keep [0,3]]
  | 1000002=>[.keep [3]]
  |_=>[])
 | 234=>(match id with
  | 15=>[.ownC 0 0 3,.mvC 0 0,.ownC 0 1 3,.mvC 0 1,.keep [0,1,2]]
  | 2000086=>[.keep [0,1,2,7,8,86]]
  | 3000012=>[.trimC 0 0]
  |_=>[])
 | 240=>(match id with
  | 7=>[.keep [1,5]]
  |_=>[])
 | 243=>(match id with
  | 4=>[.own 3 1,.keep [0,3,4,5]]
  | 6=>[.keep [0,3,4,5,6]]
  | 1000004=>[.keep [3,4]]
  | 1000006=>[.keep [0,3,4,5,6]]
  |_=>[])
 | 244=>(match id with
  | 6=>[.keep [1,5]]
  |_=>[])
 | 245=>(match id with
  | 2=>[.keep [8,9,10]]
  | 5=>[.keep [8,9,10,15,16,17]]
  | 1000002=>[.keep [2]]
  | 1000005=>[.keep [2,8,9,10]]
  |_=>[])
 | 246=>(match id with
  | 4=>[.own 4 1,.keep [0,3,4,5]]
  | 6=>[.keep [0,3,4,5,6]]
  | 1000004=>[.keep [3,4]]
  | 1000006=>[.keep [0,3,4,5,6]]
  |_=>[])
 | 247=>(match id with
  | 6=>[.keep [1,3]]
  | 7=>[.keep [1,3]]
  |_=>[])
 | 254=>(match id with
  | 3=>[.own 1 1,.keep [1,2]]
  | 4=>[.own 1 1,.keep [1,2]]
  | 1000003=>[.keep [1]]
  |_=>[])
 | 255=>(match id with
  | 2=>[.mvC 0 12,.mvC 0 14,.keep [0,1,6]]
  | 1000002=>[.keep [0]]
  |_=>[])
 | 258=>(match id with
  | 15=>[.keep [0,4,5,6]]
  | 16=>[.keep [0]]
  | 3000011=>[.trimC 0 12]
  | 3000016=>[.trimC 0 12]
  |_=>[])
 | 259=>(match id with
  | 8=>[.keep [0,4,5,7]]
  | 13=>[.keep [0,5,7,8,9]]
  | 16=>[.keep [0,5,7,8]]
  | 21=>[.keep [0,5,8]]
  | 3000021=>[.trimC 0 13]
  |_=>[])
 | 261=>(match id with
  | 16=>[.own 8 1,.keep [0,1,6,7,8,9]]
  | 17=>[.own 8 1,.keep [0,1,6,7,8,9]]
  | 27=>[.keep [0,1,10]]
  | 37=>[.mvC 0 12,.keep [0,1]]
  | 1000016=>[.keep [0,1,6,8]]
  | 1000027=>[.keep [0,4]]
  | 2000028=>[.keep [0,1,18,28]]
  | 3000021=>[.stop 5,.frz 132]
  |_=>[])
 | 262=>(match id with
  | 3000005=>[.trimC 0 12]
  |_=>[])
 | 263=>(match id with
  | 3=>[.keep [0,1,4]]
  | 10=>[.keep [0,1,4,5]]
  |_=>[])
 | 264=>(match id with
  | 2=>[.keep [0,1,7,8]]
  | 1000002=>[.keep [4]]
  |_=>[])
 | 268=>(match id with
  | 2=>[.keep [0,1,7,8]]
  | 1000002=>[.keep [4]]
  |_=>[])
 | 269=>(match id with
  | 2=>[.keep [0,1,7,8]]
  | 1000002=>[.keep [4]]
  |_=>[])
 | 270=>(match id with
  | 2=>[.keep [0,3]]
  | 1000002=>[.keep [2,3]]
  |_=>[])
 | 271=>(match id with
  | 2=>[.keep [0,1,7,8]]
  | 1000002=>[.keep [4]]
  |_=>[])
 | 272=>(match id with
  | 2=>[.keep [0,1,7,8]]
  | 1000002=>[.keep [4]]
  |_=>[])
 | 273=>(match id with
  | 2=>[.keep [0,1,7,8]]
  | 1000002=>[.keep [4]]
  |_=>[])
 | 274=>(match id with
  | 2=>[.keep [0,1,7,8]]
  | 1000002=>[.keep [4]]
  |_=>[])
 | 275=>(match id with
  | 2=>[.keep [0,1,7,8]]
  | 1000002=>[.keep [4]]
  |_=>[])
 | 276=>(match id with
  | 2=>[.keep [0,1,7,8]]
  | 1000002=>[.keep [4]]
  |_=>[])
 | 277=>(match id with
  | 3=>[.keep [0,3,4]]
  | 14=>[.keep [0,3,4,5,6,7]]
  | 17=>[.keep [0,3,4,5,6,7,8]]
  | 24=>[.keep [0,3,4,5]]
  | 1000003=>[.keep [2,3]]
  | 1000017=>[.keep [0,2,3,4,5,6,7]]
  | 2000023=>[.keep [0,3,4,7,23]]
  | 2000032=>[.keep [0,3,4,7,32]]
  |_=>[])
 | 287=>(match id with
  | 2=>[.own 3 1,.keep [0,3]]
  | 3=>[.keep [0,3]]
  | 1000002=>[.keep [0,3]]
  |_=>[])
 | 290=>(match id with
  | 2=>[.own 3 1,.keep [0,3]]
  | 3=>[.keep [0,3]]
  | 1000002=>[.keep [0,3]]
  |_=>[])
 | 291=>(match id with
  | 3=>[.own 3 1,.keep [0,3,4]]
  | 1000003=>[.keep [3]]
  |_=>[])
 | 314=>(match id with
  | 4=>[.keep [0,1,5]]
  | 1000004=>[.keep [4]]
  |_=>[])
 | 315=>(match id with
  | 3000000=>[.stop 10,.trimC 0 12]
  |_=>[])
 | 316=>(match id with
  | 2=>[.keep [0,8,9,10]]
  | 7=>[.keep [4,5,41,42,43]]
  | 16=>[.keep [0,8,9,10]]
  | 1000002=>[.keep [2]]
  | 1000007=>[.keep [2,4,5]]
  |_=>[])
 | 324=>(match id with
  | 4=>[.keep [0,2]]
  | 7=>[.keep [0,2]]
  | 10=>[.keep [0,2]]
  |_=>[])
 |_=>[]
def fin:FuncId->List Gh:=λf=>match f with
 | 47=>[.own 2 1]
 | 48=>[.own 2 1]
 | 55=>[.own 4 1]
 | 56=>[.nrm 4 [some 1,some 1],.nrmP 4 [some 1,some 1]]
 | 58=>[.mvC 0 12,.mvC 0 14]
 | 87=>[.frz 4,.nrm 4 [some 1,some 1]]
 | 95=>[.frz 4]
 | 136=>[.own 2 1]
 | 138=>[.own 2 3]
 | 139=>[.own 4 1]
 | 140=>[.own 4 1]
 | 144=>[.own 4 1]
 | 147=>[.own 4 1]
 | 149=>[.own 4 1]
 | 151=>[.own 4 1]
 | 153=>[.own 4 1]
 | 157=>[.own 4 1]
 | 161=>[.own 6 1]
 | 171=>[.mvC 0 12,.mvC 0 14,.mvC 0 13]
 | 184=>[.own 2 1,.own 3 1]
 | 221=>[.own 2 3]
 | 234=>[.mvC 0 0,.mvC 0 1]
 | 239=>[.own 4 1,.wk 4]
 | 255=>[.mvC 0 12,.mvC 0 14]
 | 257=>[.mvC 0 12,.mvC 0 14]
 | 258=>[.mvC 0 14,.mvC 0 12]
 | 259=>[.mvC 0 12,.mvC 0 13,.mvC 0 14,.drop 7]
 | 261=>[.mvC 0 12,.mvC 0 14]
 | 315=>[.mvC 0 14]
 |_=>[]
def bor:FuncId->Bool:=λf=>match f with
 | 27 | 28 | 30 | 31 | 45 | 96 | 97 | 98 | 99 | 103 | 104 | 105 | 106 | 107 | 108 | 110 | 112 | 113 | 114 | 115 | 116 | 132 | 155 | 172 | 180 | 190 | 193 | 195 | 197 | 198 | 199 | 206 | 207 | 241 | 242 | 245 | 264 | 270 | 273 | 277 | 314 | 316=>true
 |_=>false
def prims:FuncId->Option (List A->Heap->Option (A×Heap)):=λf=>match f with
 | 235=>some (sortP 3 236)
 |_=>none
def cfg:Cfg:=⟨ann,fin,bor⟩
abbrev LI:=List Int
abbrev LTy:=List af
abbrev LIm:=List ak
abbrev LIn:=List ag
abbrev LFu:=List aj
abbrev LMe:=List au
abbrev LGl:=List ai
abbrev LEx:=List ae
abbrev LDa:=List aA
abbrev LCu:=List aI
abbrev k1:Option Blk:=bp 8 [.n,.n,.n,.n,.n,.n,.n,.n]
abbrev k2(x0:LTy)(x1:LIm)(x2 x3:Nat)(x4:LGl):Option Blk:=bm 8 [.l 2 af.e x0,.l 3 ak.e x1,.n,.slw x2 2 x3,.l 3 ai.e x4,.n,.n,.n]
abbrev k3(x0:LTy)(x1:LIm)(x2 x3:Nat)(x4 x5:Nat)(x6:LGl)(x7 x8:Nat)(x9:LDa):Option Blk:=bm 8 [.l 2 af.e x0,.l 3 ak.e x1,.slw x2 3 x3,.slw x4 2 x5,.l 3 ai.e x6,.slw x7 3 x8,.l 4 aA.e x9,.n]
abbrev k4(x0:Nat)(x1:LTy)(x2:LIm)(x3 x4:Nat)(x5 x6:Nat)(x7:LGl)(x8 x9:Nat)(x10:LDa)(x11 x12:Nat)(x13 x14:LI)(x15 x16:Nat)(x17 x18:Nat)(x19 x20:Nat)(x21:Int)(x22:Bool):Option Blk:=bm 17 [.ptr x0 2 0 0,.l 2 af.e x1,.l 3 ak.e x2,.slw x3 3 x4,.slw x5 2 x6,.l 3 ai.e x7,.slw x8 3 x9,.l 4 aA.e x10,.n,.slw x11 1 x12,.l 1 (eI .i64) x13,.l 1 (eI .i64) x14,.slw x15 1 x16,.slw x17 1 x18,.slw x19 5 x20,.i x21,.b x22]
abbrev k5(x0:LTy)(x1:LIm)(x2 x3:Nat)(x4:LGl)(x5 x6:Nat)(x7:LDa):Option Blk:=bm 8 [.l 2 af.e x0,.l 3 ak.e x1,.n,.slw x2 2 x3,.l 3 ai.e x4,.slw x5 3 x6,.l 4 aA.e x7,.n]
abbrev k6(x0:LTy)(x1:LIm)(x2:LFu)(x3:LMe)(x4:LGl)(x5:LEx)(x6:LDa)(x7:LCu):Option Blk:=bp 8 [.l 2 af.e x0,.l 3 ak.e x1,.l 3 aj.e x2,.l 2 au.e x3,.l 3 ai.e x4,.l 3 ae.e x5,.l 4 aA.e x6,.l 2 aI.e x7]
abbrev u6(m:an):=k6 m.Types m.Imports m.Funcs m.Mems m.Globals m.Exports m.Datas m.Customs
abbrev w6(m:an):List FV:=[.l 2 af.e m.Types,.l 3 ak.e m.Imports,.l 3 aj.e m.Funcs,.l 2 au.e m.Mems,.l 3 ai.e m.Globals,.l 3 ae.e m.Exports,.l 4 aA.e m.Datas,.l 2 aI.e m.Customs]
abbrev sp(k:Nat)(f:FuncId){α:Type}(io:List A×Heap)(enc:α->A×Heap)(s:Sc α):Prop:=SimP Tryz.prog cfg prims k f io enc s
abbrev op(k:Nat)(f:FuncId){α:Type}(io:List A×Heap)(enc:α->A×Heap)(o:Option α):Prop:=OkP Tryz.prog cfg prims k f io enc o
def dS.f:Nat->Option (LI×LI×LI×LI×LI×LI×LI)
 | 0=>none
 | k+1=>(some (([(127:Int)]:LI),([(127:Int),(127:Int)]:LI),([(126:Int),(124:Int)]:LI),([(124:Int)]:LI),([(127:Int),(126:Int),(124:Int)]:LI),([(127:Int),(126:Int)]:LI),([(126:Int)]:LI)))
section
variable(k:Nat)
noncomputable def dS.s:Sc (LI×LI×LI×LI×LI×LI×LI):=(.ret (([(127:Int)]:LI),([(127:Int),(127:Int)]:LI),([(126:Int),(124:Int)]:LI),([(124:Int)]:LI),([(127:Int),(126:Int),(124:Int)]:LI),([(127:Int),(126:Int)]:LI),([(126:Int)]:LI)))
theorem dS.ok:op k 53 ([],[]) (λv8=>(.o 0 2 9,[some (.mix 2 [[.l 1 (eI .i64) ([]:LI),.l 1 (eI .i64) ([]:LI)],[.slw 1 1 v8.1.length,.slw 2 1 v8.1.length],[.slw 3 1 v8.q1.length,.slw 4 1 v8.q1.length],[.slw 5 1 v8.q2.length,.slw 6 1 v8.q3.length],[.l 1 (eI .i64) ([]:LI),.slw 7 1 v8.q4.length],[.slw 8 1 v8.1.length,.slw 9 1 v8.q5.length],[.slw 10 1 v8.q3.length,.slw 11 1 v8.1.length],[.slw 12 1 v8.q5.length,.l 1 (eI .i64) ([]:LI)],[.slw 13 1 v8.l6.length,.slw 14 1 v8.l6.length]]),bl 1 (eI .i64) v8.1,bl 1 (eI .i64) v8.1,bl 1 (eI .i64) v8.q1,bl 1 (eI .i64) v8.q1,bl 1 (eI .i64) v8.q2,bl 1 (eI .i64) v8.q3,bl 1 (eI .i64) v8.q4,bl 1 (eI .i64) v8.1,bl 1 (eI .i64) v8.q5,bl 1 (eI .i64) v8.q3,bl 1 (eI .i64) v8.1,bl 1 (eI .i64) v8.q5,bl 1 (eI .i64) v8.l6,bl 1 (eI .i64) v8.l6])) (dS.f k):=by apply oP (λ_=>dS.s) k
end
def dm.f:Nat->Int->Int->Int->Option (Int)
 | 0,_,_,_=>none
 | k+1,n1,lo2,hi3=>(segB (if n1≥lo2 then(if n1<=hi3 then(some (.inr n1))else(some (.inl ())))else(some (.inl ()))) (λ_=>(if(iadd .i64 (isub .i64 hi3 lo2) 1)≠0 then(if(irem .i64 n1 (iadd .i64 (isub .i64 hi3 lo2) 1))<0 then(let y15:Int:=(iadd .i64 (irem .i64 n1 (iadd .i64 (isub .i64 hi3 lo2) 1)) hi3);(some (iadd .i64 lo2 (iadd .i64 (isub .i64 y15 lo2) 1))))else(let y17:Int:=(iadd .i64 lo2 (irem .i64 n1 (iadd .i64 (isub .i64 hi3 lo2) 1)));(some y17)))else none)))
section
variable(k:Nat)(n1 lo2 hi3:Int)
noncomputable def dm.s:Sc (Int):=(.seg (O:=Unit) 3 (.bq 1 3 10 false (n1≥lo2) (.bq 1 7 14 false (n1<=hi3) (.ret (.inr n1)) (.ret (.inl ()))) (.ret (.inl ()))) (λv12=>⟨mk 33 [(0,.i n1),(1,.i lo2),(2,.i hi3)],[]⟩) λv12=>(.ck 3 5 [(iadd .i64 (isub .i64 hi3 lo2) 1)≠0] (.bq 4 1 23 false ((irem .i64 n1 (iadd .i64 (isub .i64 hi3 lo2) 1))<0) (.nm 5 2 26 .i64 (iadd .i64 (irem .i64 n1 (iadd .i64 (isub .i64 hi3 lo2) 1)) hi3) λv16=>(.ret (iadd .i64 lo2 (iadd .i64 (isub .i64 v16 lo2) 1)))) (.nm 6 2 32 .i64 (iadd .i64 lo2 (irem .i64 n1 (iadd .i64 (isub .i64 hi3 lo2) 1))) λv18=>(.ret v18)))))
theorem dm.ok:op k 38 ([.i n1,.i lo2,.i hi3],[]) (λv19=>(.i v19,[])) (dm.f k n1 lo2 hi3):=by apply oP (λ_=>dm.s n1 lo2 hi3) k
end
def aa.f:Nat->Int->LI->Int->Option (Int×Int)
 | 0,_,_,_=>none
 | k+1,n1,h2,h3=>(if h3≥(h2.length:Int)then(some ((0:Int),h3))else((at? h2 (isub .i64 (iadd .i64 h3 1) 1)).bind λe10=>((dm.f k e10 (0:Int) (1073741824:Int)).bind λr12=>(if n1≠0 then(some ((irem .i64 r12 n1),(iadd .i64 h3 1)))else none))))
section
variable(k:Nat)(n1:Int)(h2:LI)(h3:Int)
noncomputable def aa.s:Sc (Int×Int):=(.rS 1 8 13 (lm (eI .i64) h2) (.bq 1 9 14 false (h3≥(h2.length:Int)) (.ret ((0:Int),h3)) (.op 4 9 (Rd.el (eI .i64) h2 (isub .i64 (iadd .i64 h3 1) 1)) λv11=>(.cl 4 11 (dm.ok k v11 (0:Int) (1073741824:Int)) λv13=>(.ck 4 13 [n1≠0] (.ret ((irem .i64 v13 n1),(iadd .i64 h3 1))))))))
theorem aa.ok:op k 54 ([.p 0 2 0 0,.i n1],[bp 2 [.l 1 (eI .i64) h2,.i h3]]) (λv14=>(.i v14.1,[bp 2 [.l 1 (eI .i64) h2,.i v14.2]])) (aa.f k n1 h2 h3):=by apply oP (aa.s · n1 h2 h3) k
end
def dp.f:Nat->LTy->LIm->LGl->LDa->Int->LFu->LMe->LEx->Option (af×Bool)
 | 0,_,_,_,_,_,_,_,_=>none
 | k+1,m1,m2,m3,m4,f5,h6,h7,h8=>(segB (segB (if f5≥0 then(some (.inl (decide (f5<(m2.length:Int)))))else(some (.inl false))) (λx40=>(if x40=true then((at? m2 f5).bind λe42=>(some (.inl e42.fType)))else(segB (if f5≥0 then(some (.inl (decide (f5<(iadd .i64 (m2.length:Int) (h6.length:Int))))))else(some (.inl false))) (λx44=>(if x44=true then(if(0:Int)<=(isub .i64 f5 (m2.length:Int))/\(isub .i64 f5 (m2.length:Int))<(h6.length:Int)then(h6[((isub .i64 f5 (m2.length:Int))).toNat]?.bind λe46=>(some (.inl e46.fType)))else none)else(some (.inl (-1:Int))))))))) (λt39=>(if t39<0 then(some ((af.mk ([]:LI) ([]:LI)),false))else(if t39≥(m1.length:Int)then(some ((af.mk ([]:LI) ([]:LI)),false))else((at? m1 t39).bind λe49=>(some (e49,true)))))))
section
variable(k:Nat)(m1:LTy)(m2:LIm)(m3:LGl)(m4:LDa)(f5:Int)(h6:LFu)(h7:LMe)(h8:LEx)
noncomputable def dp.s:Sc (af×Bool):=(.seg (O:=Int) 6 (.seg (O:=Bool) 20000150000002 (.bq 2 2 9 false (f5≥0) (.rS 2 6 13 (lm ak.e m2) (.ret (.inl (decide (f5<(m2.length:Int)))))) (.ret (.inl false))) (λv41=>⟨mk 60 [(1,.i f5),(2,.p 3 8 0 0),(4,.p 4 2 0 0),(6,.i (-1)),(15,.b v41)],[bl 3 aj.e h6,bl 2 au.e h7,bl 3 ae.e h8,k3 m1 m2 0 h6.length 1 h7.length m3 2 h8.length m4,bp 2 [.n,.n]]⟩) λv41=>(.br 2000015 900 15 v41 (.op 3 3 (Rd.el ak.e m2 f5) λv43=>(.ret (.inl v43.fType))) (.seg (O:=Bool) 20000340000004 (.bq 4 2 24 false (f5≥0) (.rS 4 6 28 (lm ak.e m2) (.ret (.inl (decide (f5<(iadd .i64 (m2.length:Int) (h6.length:Int))))))) (.ret (.inl false))) (λv45=>⟨mk 60 [(1,.i f5),(2,.p 3 8 0 0),(4,.p 4 2 0 0),(6,.i (-1)),(34,.b v45)],[bl 3 aj.e h6,bl 2 au.e h7,bl 3 ae.e h8,k3 m1 m2 0 h6.length 1 h7.length m3 2 h8.length m4,bp 2 [.n,.n]]⟩) λv45=>(.br 2000034 900 34 v45 (.rS 5 5 40 (lm ak.e m2) (.ck 5 7 [(0:Int)<=(isub .i64 f5 (m2.length:Int)),(isub .i64 f5 (m2.length:Int))<(h6.length:Int)] (.op 5 9 (Rd.ld 3 aj.e h6 (((isub .i64 f5 (m2.length:Int))).toNat)) λv47=>(.ret (.inl v47.fType))))) (.ret (.inl (-1:Int))))))) (λv48=>⟨mk 60 [(2,.p 3 8 0 0),(4,.p 4 2 0 0),(6,.i v48)],[bl 3 aj.e h6,bl 2 au.e h7,bl 3 ae.e h8,k3 m1 m2 0 h6.length 1 h7.length m3 2 h8.length m4,bp 2 [.n,.n]]⟩) λv48=>(.bq 6 2 47 false (v48<0) (.ret ((af.mk ([]:LI) ([]:LI)),false)) (.rS 6 6 51 (lm af.e m1) (.bq 6 8 53 false (v48≥(m1.length:Int)) (.ret ((af.mk ([]:LI) ([]:LI)),false)) (.op 8 3 (Rd.el af.e m1 v48) λv50=>(.ret (v50,true)))))))
theorem dp.ok:op k 56 ([.agm [.l 2 af.e m1,.l 3 ak.e m2,.slw 0 3 h6.length,.slw 1 2 h7.length,.l 3 ai.e m3,.slw 2 3 h8.length,.l 4 aA.e m4,.n],.i f5],[bl 3 aj.e h6,bl 2 au.e h7,bl 3 ae.e h8]) (λv51=>(.tup [.agp [.l 1 (eI .i64) v51.1.Params,.l 1 (eI .i64) v51.1.Results],.b v51.2],[bl 3 aj.e h6,bl 2 au.e h7,bl 3 ae.e h8])) (dp.f k m1 m2 m3 m4 f5 h6 h7 h8):=by apply oP (λ_=>dp.s m1 m2 m3 m4 f5 h6 h7 h8) k
end
def dD.f:Nat->LTy->LIm->LGl->LDa->Int->LFu->LMe->LEx->Option (LI)
 | 0,_,_,_,_,_,_,_,_=>none
 | k+1,m1,m2,m3,m4,f5,h6,h7,h8=>((dp.f k m1 m2 m3 m4 f5 h6 h7 h8).bind λ(r15,r16)=>(if(!r16)=true then(some ([]:LI))else(if f5<(m2.length:Int)then(some ([]:LI))else(if(0:Int)<=(isub .i64 f5 (m2.length:Int))/\(isub .i64 f5 (m2.length:Int))<(h6.length:Int)then(h6[((isub .i64 f5 (m2.length:Int))).toNat]?.bind λe18=>(if aad (0+r15.Params.length) 8 then(if aad (r15.Params.length+e18.Locals.length) 8 then(some (r15.Params++e18.Locals))else none)else none))else none))))
section
variable(k:Nat)(m1:LTy)(m2:LIm)(m3:LGl)(m4:LDa)(f5:Int)(h6:LFu)(h7:LMe)(h8:LEx)
noncomputable def dD.s:Sc (LI):=(.cl 1 2 (dp.ok k m1 m2 m3 m4 f5 h6 h7 h8) λv17=>(.br 2 2 15 (!v17.2) (.ret ([]:LI)) (.rS 2 6 19 (lm ak.e m2) (.bq 2 8 21 false (f5<(m2.length:Int)) (.ret ([]:LI)) (.rS 4 9 31 (lm ak.e m2) (.ck 4 11 [(0:Int)<=(isub .i64 f5 (m2.length:Int)),(isub .i64 f5 (m2.length:Int))<(h6.length:Int)] (.op 4 13 (Rd.ld 3 aj.e h6 (((isub .i64 f5 (m2.length:Int))).toNat)) λv19=>(.ch 4 3 (aad (0+v17.1.Params.length) 8) (aaa 8 ([]:LI).length v17.1.Params (mX (eI .i64) v17.1.Params)) (.rS 4 3 25 (aac 6 1 ([]:LI) v17.1.Params (mX (eI .i64) v17.1.Params)) (.rB 4 3 6 (aab 1 (eI .i64) ([]:LI) v17.1.Params (mX (eI .i64) v17.1.Params)) (.ch 4 14 (aad (v17.1.Params.length+v19.Locals.length) 8) (aaa 8 v17.1.Params.length v19.Locals (mX (eI .i64) v19.Locals)) (.rS 4 14 36 (aac 7 1 v17.1.Params v19.Locals (mX (eI .i64) v19.Locals)) (.rB 4 14 7 (aab 1 (eI .i64) v17.1.Params v19.Locals (mX (eI .i64) v19.Locals)) (.ret (v17.1.Params++v19.Locals)))))))))))))))
theorem dD.ok:op k 55 ([.agm [.l 2 af.e m1,.l 3 ak.e m2,.slw 0 3 h6.length,.slw 1 2 h7.length,.l 3 ai.e m3,.slw 2 3 h8.length,.l 4 aA.e m4,.n],.i f5],[bl 3 aj.e h6,bl 2 au.e h7,bl 3 ae.e h8]) (λv20=>(.o 3 1 v20.length,[bl 3 aj.e h6,bl 2 au.e h7,bl 3 ae.e h8,bl 1 (eI .i64) v20])) (dD.f k m1 m2 m3 m4 f5 h6 h7 h8):=by apply oP (dD.s · m1 m2 m3 m4 f5 h6 h7 h8) k
end
def eH.f:Nat->Int->Option (Bool)
 | 0,_=>none
 | k+1,op1=>(if op1≥69 then(if op1<=90 then(some true)else(if op1≥103 then(if op1<=138 then(some true)else(if op1=167 then(some true)else(if op1=172 then(some true)else(if op1=173 then(some true)else(if op1≥192 then(some (decide (op1<=196)))else(some false))))))else(if op1=167 then(some true)else(if op1=172 then(some true)else(if op1=173 then(some true)else(if op1≥192 then(some (decide (op1<=196)))else(some false)))))))else(if op1≥103 then(if op1<=138 then(some true)else(if op1=167 then(some true)else(if op1=172 then(some true)else(if op1=173 then(some true)else(if op1≥192 then(some (decide (op1<=196)))else(some false))))))else(if op1=167 then(some true)else(if op1=172 then(some true)else(if op1=173 then(some true)else(if op1≥192 then(some (decide (op1<=196)))else(some false)))))))
section
variable(k:Nat)(op1:Int)
noncomputable def eH.s:Sc (Bool):=(.bq 1 2 5 false (op1≥69) (.bq 1 6 9 false (op1<=90) (.ret true) (.bq 1 9 12 false (op1≥103) (.bq 1 14 17 false (op1<=138) (.ret true) (.bq 1 18 21 false (op1=167) (.ret true) (.bq 1 22 25 false (op1=172) (.ret true) (.bq 1 26 29 false (op1=173) (.ret true) (.bq 1 29 32 false (op1≥192) (.ret (decide (op1<=196))) (.ret false)))))) (.bq 1 18 21 false (op1=167) (.ret true) (.bq 1 22 25 false (op1=172) (.ret true) (.bq 1 26 29 false (op1=173) (.ret true) (.bq 1 29 32 false (op1≥192) (.ret (decide (op1<=196))) (.ret false))))))) (.bq 1 9 12 false (op1≥103) (.bq 1 14 17 false (op1<=138) (.ret true) (.bq 1 18 21 false (op1=167) (.ret true) (.bq 1 22 25 false (op1=172) (.ret true) (.bq 1 26 29 false (op1=173) (.ret true) (.bq 1 29 32 false (op1≥192) (.ret (decide (op1<=196))) (.ret false)))))) (.bq 1 18 21 false (op1=167) (.ret true) (.bq 1 22 25 false (op1=172) (.ret true) (.bq 1 26 29 false (op1=173) (.ret true) (.bq 1 29 32 false (op1≥192) (.ret (decide (op1<=196))) (.ret false)))))))
theorem eH.ok:op k 266 ([.i op1],[]) (λv3=>(.b v3,[])) (eH.f k op1):=by apply oP (λ_=>eH.s op1) k
end
def eM.f:Nat->Int->Option (Bool)
 | 0,_=>none
 | k+1,op1=>(if op1≥97 then(if op1<=102 then(some true)else(if op1≥153 then(if op1<=166 then(some true)else(if op1=170 then(some true)else(if op1=171 then(some true)else(if op1=176 then(some true)else(if op1=177 then(some true)else(if op1≥183 then(if op1<=186 then(some true)else(if op1=189 then(some true)else(if op1=191 then(some true)else(if op1=64514 then(some true)else(if op1=64515 then(some true)else(if op1=64518 then(some true)else(some (decide (op1=64519)))))))))else(if op1=189 then(some true)else(if op1=191 then(some true)else(if op1=64514 then(some true)else(if op1=64515 then(some true)else(if op1=64518 then(some true)else(some (decide (op1=64519))))))))))))))else(if op1=170 then(some true)else(if op1=171 then(some true)else(if op1=176 then(some true)else(if op1=177 then(some true)else(if op1≥183 then(if op1<=186 then(some true)else(if op1=189 then(some true)else(if op1=191 then(some true)else(if op1=64514 then(some true)else(if op1=64515 then(some true)else(if op1=64518 then(some true)else(some (decide (op1=64519)))))))))else(if op1=189 then(some true)else(if op1=191 then(some true)else(if op1=64514 then(some true)else(if op1=64515 then(some true)else(if op1=64518 then(some true)else(some (decide (op1=64519)))))))))))))))else(if op1≥153 then(if op1<=166 then(some true)else(if op1=170 then(some true)else(if op1=171 then(some true)else(if op1=176 then(some true)else(if op1=177 then(some true)else(if op1≥183 then(if op1<=186 then(some true)else(if op1=189 then(some true)else(if op1=191 then(some true)else(if op1=64514 then(some true)else(if op1=64515 then(some true)else(if op1=64518 then(some true)else(some (decide (op1=64519)))))))))else(if op1=189 then(some true)else(if op1=191 then(some true)else(if op1=64514 then(some true)else(if op1=64515 then(some true)else(if op1=64518 then(some true)else(some (decide (op1=64519))))))))))))))else(if op1=170 then(some true)else(if op1=171 then(some true)else(if op1=176 then(some true)else(if op1=177 then(some true)else(if op1≥183 then(if op1<=186 then(some true)else(if op1=189 then(some true)else(if op1=191 then(some true)else(if op1=64514 then(some true)else(if op1=64515 then(some true)else(if op1=64518 then(some true)else(some (decide (op1=64519)))))))))else(if op1=189 then(some true)else(if op1=191 then(some true)else(if op1=64514 then(some true)else(if op1=64515 then(some true)else(if op1=64518 then(some true)else(some (decide (op1=64519)))))))))))))))
section
variable(k:Nat)(op1:Int)
noncomputable def eM.s:Sc (Bool):=(.bq 1 2 5 false (op1≥97) (.bq 1 6 9 false (op1<=102) (.ret true) (.bq 1 9 12 false (op1≥153) (.bq 1 14 17 false (op1<=166) (.ret true) (.bq 1 18 21 false (op1=170) (.ret true) (.bq 1 22 25 false (op1=171) (.ret true) (.bq 1 26 29 false (op1=176) (.ret true) (.bq 1 30 33 false (op1=177) (.ret true) (.bq 1 33 36 false (op1≥183) (.bq 1 38 41 false (op1<=186) (.ret true) (.bq 1 42 45 false (op1=189) (.ret true) (.bq 1 46 49 false (op1=191) (.ret true) (.bq 1 50 53 false (op1=64514) (.ret true) (.bq 1 54 57 false (op1=64515) (.ret true) (.bq 1 58 61 false (op1=64518) (.ret true) (.ret (decide (op1=64519))))))))) (.bq 1 42 45 false (op1=189) (.ret true) (.bq 1 46 49 false (op1=191) (.ret true) (.bq 1 50 53 false (op1=64514) (.ret true) (.bq 1 54 57 false (op1=64515) (.ret true) (.bq 1 58 61 false (op1=64518) (.ret true) (.ret (decide (op1=64519)))))))))))))) (.bq 1 18 21 false (op1=170) (.ret true) (.bq 1 22 25 false (op1=171) (.ret true) (.bq 1 26 29 false (op1=176) (.ret true) (.bq 1 30 33 false (op1=177) (.ret true) (.bq 1 33 36 false (op1≥183) (.bq 1 38 41 false (op1<=186) (.ret true) (.bq 1 42 45 false (op1=189) (.ret true) (.bq 1 46 49 false (op1=191) (.ret true) (.bq 1 50 53 false (op1=64514) (.ret true) (.bq 1 54 57 false (op1=64515) (.ret true) (.bq 1 58 61 false (op1=64518) (.ret true) (.ret (decide (op1=64519))))))))) (.bq 1 42 45 false (op1=189) (.ret true) (.bq 1 46 49 false (op1=191) (.ret true) (.bq 1 50 53 false (op1=64514) (.ret true) (.bq 1 54 57 false (op1=64515) (.ret true) (.bq 1 58 61 false (op1=64518) (.ret true) (.ret (decide (op1=64519))))))))))))))) (.bq 1 9 12 false (op1≥153) (.bq 1 14 17 false (op1<=166) (.ret true) (.bq 1 18 21 false (op1=170) (.ret true) (.bq 1 22 25 false (op1=171) (.ret true) (.bq 1 26 29 false (op1=176) (.ret true) (.bq 1 30 33 false (op1=177) (.ret true) (.bq 1 33 36 false (op1≥183) (.bq 1 38 41 false (op1<=186) (.ret true) (.bq 1 42 45 false (op1=189) (.ret true) (.bq 1 46 49 false (op1=191) (.ret true) (.bq 1 50 53 false (op1=64514) (.ret true) (.bq 1 54 57 false (op1=64515) (.ret true) (.bq 1 58 61 false (op1=64518) (.ret true) (.ret (decide (op1=64519))))))))) (.bq 1 42 45 false (op1=189) (.ret true) (.bq 1 46 49 false (op1=191) (.ret true) (.bq 1 50 53 false (op1=64514) (.ret true) (.bq 1 54 57 false (op1=64515) (.ret true) (.bq 1 58 61 false (op1=64518) (.ret true) (.ret (decide (op1=64519)))))))))))))) (.bq 1 18 21 false (op1=170) (.ret true) (.bq 1 22 25 false (op1=171) (.ret true) (.bq 1 26 29 false (op1=176) (.ret true) (.bq 1 30 33 false (op1=177) (.ret true) (.bq 1 33 36 false (op1≥183) (.bq 1 38 41 false (op1<=186) (.ret true) (.bq 1 42 45 false (op1=189) (.ret true) (.bq 1 46 49 false (op1=191) (.ret true) (.bq 1 50 53 false (op1=64514) (.ret true) (.bq 1 54 57 false (op1=64515) (.ret true) (.bq 1 58 61 false (op1=64518) (.ret true) (.ret (decide (op1=64519))))))))) (.bq 1 42 45 false (op1=189) (.ret true) (.bq 1 46 49 false (op1=191) (.ret true) (.bq 1 50 53 false (op1=64514) (.ret true) (.bq 1 54 57 false (op1=64515) (.ret true) (.bq 1 58 61 false (op1=64518) (.ret true) (.ret (decide (op1=64519)))))))))))))))
theorem eM.ok:op k 267 ([.i op1],[]) (λv3=>(.b v3,[])) (eM.f k op1):=by apply oP (λ_=>eM.s op1) k
end
def aO.f:Nat->Int->Option (Bool×LI×LI)
 | 0,_=>none
 | k+1,op1=>(segB (segB ((eH.f k op1).bind λr121=>(if(!r121)=true then((eM.f k op1).bind λr123=>(some (.inl (!r123))))else(some (.inl false)))) (λx120=>(if x120=true then(some (.inr (false,([]:LI),([]:LI))))else(if op1=69 then(some (.inr (true,([(127:Int)]:LI),([(127:Int)]:LI))))else(segB (if op1≥70 then(some (.inl (decide (op1<=79))))else(some (.inl false))) (λx126=>(if x126=true then(some (.inr (true,([(127:Int),(127:Int)]:LI),([(127:Int)]:LI))))else(if op1=80 then(some (.inr (true,([(126:Int)]:LI),([(127:Int)]:LI))))else(segB (if op1≥81 then(some (.inl (decide (op1<=90))))else(some (.inl false))) (λx128=>(if x128=true then(some (.inr (true,([(126:Int),(126:Int)]:LI),([(127:Int)]:LI))))else(segB (if op1≥97 then(some (.inl (decide (op1<=102))))else(some (.inl false))) (λx130=>(if x130=true then(some (.inr (true,([(124:Int),(124:Int)]:LI),([(127:Int)]:LI))))else(segB (if op1≥103 then(if op1<=105 then(some (.inl true))else(if op1=192 then(some (.inl true))else(some (.inl (decide (op1=193))))))else(if op1=192 then(some (.inl true))else(some (.inl (decide (op1=193)))))) (λx132=>(if x132=true then(some (.inr (true,([(127:Int)]:LI),([(127:Int)]:LI))))else(segB (if op1≥106 then(some (.inl (decide (op1<=120))))else(some (.inl false))) (λx134=>(if x134=true then(some (.inr (true,([(127:Int),(127:Int)]:LI),([(127:Int)]:LI))))else(segB (if op1≥121 then(if op1<=123 then(some (.inl true))else(if op1≥194 then(some (.inl (decide (op1<=196))))else(some (.inl false))))else(if op1≥194 then(some (.inl (decide (op1<=196))))else(some (.inl false)))) (λx136=>(if x136=true then(some (.inr (true,([(126:Int)]:LI),([(126:Int)]:LI))))else(segB (if op1≥124 then(some (.inl (decide (op1<=138))))else(some (.inl false))) (λx138=>(if x138=true then(some (.inr (true,([(126:Int),(126:Int)]:LI),([(126:Int)]:LI))))else(segB (if op1≥153 then(some (.inl (decide (op1<=159))))else(some (.inl false))) (λx140=>(if x140=true then(some (.inr (true,([(124:Int)]:LI),([(124:Int)]:LI))))else(if op1≥160 then(if op1<=166 then(some (.inr (true,([(124:Int),(124:Int)]:LI),([(124:Int)]:LI))))else(some (.inl ())))else(some (.inl ())))))))))))))))))))))))))))))))) (λ_=>(if op1=167 then(some (true,([(126:Int)]:LI),([(127:Int)]:LI)))else(segB (if op1=172 then(some (.inl true))else(if op1=173 then(some (.inl true))else(some (.inl false)))) (λx151=>(if x151=true then(some (true,([(127:Int)]:LI),([(126:Int)]:LI)))else(segB (if op1=170 then(some (.inl true))else(if op1=171 then(some (.inl true))else(if op1=64514 then(some (.inl true))else(if op1=64515 then(some (.inl true))else(some (.inl false)))))) (λx153=>(if x153=true then(some (true,([(124:Int)]:LI),([(127:Int)]:LI)))else(segB (if op1=176 then(some (.inl true))else(if op1=177 then(some (.inl true))else(if op1=64518 then(some (.inl true))else(if op1=64519 then(some (.inl true))else(if op1=189 then(some (.inl true))else(some (.inl false))))))) (λx155=>(if x155=true then(some (true,([(124:Int)]:LI),([(126:Int)]:LI)))else(segB (if op1=183 then(some (.inl true))else(if op1=184 then(some (.inl true))else(some (.inl false)))) (λx157=>(if x157=true then(some (true,([(127:Int)]:LI),([(124:Int)]:LI)))else(some (true,([(126:Int)]:LI),([(124:Int)]:LI))))))))))))))))))
section
variable(k:Nat)(op1:Int)
noncomputable def aO.s:Sc (Bool×LI×LI):=(.seg (O:=Unit) 26 (.seg (O:=Bool) 20000080000002 (.cl 2 1 (eH.ok k op1) λv122=>(.br 2 3 12 (!v122) (.cl 2 5 (eM.ok k op1) λv124=>(.ret (.inl (!v124)))) (.ret (.inl false)))) (λv125=>⟨mk 196 [(0,.i op1),(5,.i 127),(6,.i 126),(7,.i 124),(8,.b v125)],[]⟩) λv125=>(.br 2000008 900 8 v125 (.ret (.inr (false,([]:LI),([]:LI)))) (.bq 4 2 17 false (op1=69) (.ret (.inr (true,([(127:Int)]:LI),([(127:Int)]:LI)))) (.seg (O:=Bool) 20000240000006 (.bq 6 2 27 false (op1≥70) (.ret (.inl (decide (op1<=79)))) (.ret (.inl false))) (λv127=>⟨mk 196 [(0,.i op1),(5,.i 127),(6,.i 126),(7,.i 124),(24,.b v127)],[]⟩) λv127=>(.br 2000024 900 24 v127 (.ret (.inr (true,([(127:Int),(127:Int)]:LI),([(127:Int)]:LI)))) (.bq 8 2 36 false (op1=80) (.ret (.inr (true,([(126:Int)]:LI),([(127:Int)]:LI)))) (.seg (O:=Bool) 20000430000010 (.bq 10 2 46 false (op1≥81) (.ret (.inl (decide (op1<=90)))) (.ret (.inl false))) (λv129=>⟨mk 196 [(0,.i op1),(5,.i 127),(6,.i 126),(7,.i 124),(43,.b v129)],[]⟩) λv129=>(.br 2000043 900 43 v129 (.ret (.inr (true,([(126:Int),(126:Int)]:LI),([(127:Int)]:LI)))) (.seg (O:=Bool) 20000550000012 (.bq 12 2 58 false (op1≥97) (.ret (.inl (decide (op1<=102)))) (.ret (.inl false))) (λv131=>⟨mk 196 [(0,.i op1),(5,.i 127),(6,.i 126),(7,.i 124),(55,.b v131)],[]⟩) λv131=>(.br 2000055 900 55 v131 (.ret (.inr (true,([(124:Int),(124:Int)]:LI),([(127:Int)]:LI)))) (.seg (O:=Bool) 20000670000014 (.bq 14 2 70 false (op1≥103) (.bq 14 6 74 false (op1<=105) (.ret (.inl true)) (.bq 14 10 78 false (op1=192) (.ret (.inl true)) (.ret (.inl (decide (op1=193)))))) (.bq 14 10 78 false (op1=192) (.ret (.inl true)) (.ret (.inl (decide (op1=193)))))) (λv133=>⟨mk 196 [(0,.i op1),(5,.i 127),(6,.i 126),(7,.i 124),(67,.b v133)],[]⟩) λv133=>(.br 2000067 900 67 v133 (.ret (.inr (true,([(127:Int)]:LI),([(127:Int)]:LI)))) (.seg (O:=Bool) 20000860000016 (.bq 16 2 89 false (op1≥106) (.ret (.inl (decide (op1<=120)))) (.ret (.inl false))) (λv135=>⟨mk 196 [(0,.i op1),(5,.i 127),(6,.i 126),(7,.i 124),(86,.b v135)],[]⟩) λv135=>(.br 2000086 900 86 v135 (.ret (.inr (true,([(127:Int),(127:Int)]:LI),([(127:Int)]:LI)))) (.seg (O:=Bool) 20000980000018 (.bq 18 2 101 false (op1≥121) (.bq 18 6 105 false (op1<=123) (.ret (.inl true)) (.bq 18 9 108 false (op1≥194) (.ret (.inl (decide (op1<=196)))) (.ret (.inl false)))) (.bq 18 9 108 false (op1≥194) (.ret (.inl (decide (op1<=196)))) (.ret (.inl false)))) (λv137=>⟨mk 196 [(0,.i op1),(5,.i 127),(6,.i 126),(7,.i 124),(98,.b v137)],[]⟩) λv137=>(.br 2000098 900 98 v137 (.ret (.inr (true,([(126:Int)]:LI),([(126:Int)]:LI)))) (.seg (O:=Bool) 20001170000020 (.bq 20 2 120 false (op1≥124) (.ret (.inl (decide (op1<=138)))) (.ret (.inl false))) (λv139=>⟨mk 196 [(0,.i op1),(5,.i 127),(6,.i 126),(7,.i 124),(117,.b v139)],[]⟩) λv139=>(.br 2000117 900 117 v139 (.ret (.inr (true,([(126:Int),(126:Int)]:LI),([(126:Int)]:LI)))) (.seg (O:=Bool) 20001290000022 (.bq 22 2 132 false (op1≥153) (.ret (.inl (decide (op1<=159)))) (.ret (.inl false))) (λv141=>⟨mk 196 [(0,.i op1),(5,.i 127),(6,.i 126),(7,.i 124),(129,.b v141)],[]⟩) λv141=>(.br 2000129 900 129 v141 (.ret (.inr (true,([(124:Int)]:LI),([(124:Int)]:LI)))) (.bq 24 2 143 false (op1≥160) (.bq 24 6 140 false (op1<=166) (.ret (.inr (true,([(124:Int),(124:Int)]:LI),([(124:Int)]:LI)))) (.ret (.inl ()))) (.ret (.inl ()))))))))))))))))))))))) (λv142=>⟨mk 196 [(0,.i op1),(5,.i 127),(6,.i 126),(7,.i 124)],[]⟩) λv142=>(.bq 27 1 153 false (op1=167) (.ret (true,([(126:Int)]:LI),([(127:Int)]:LI))) (.seg (O:=Bool) 20001590000029 (.bq 29 1 159 false (op1=172) (.ret (.inl true)) (.bq 30 1 159 false (op1=173) (.ret (.inl true)) (.ret (.inl false)))) (λv152=>⟨mk 196 [(5,.i 127),(6,.i 126),(7,.i 124),(152,.i op1),(159,.b v152)],[]⟩) λv152=>(.br 2000159 900 159 v152 (.ret (true,([(127:Int)]:LI),([(126:Int)]:LI))) (.seg (O:=Bool) 20001660000032 (.bq 32 1 166 false (op1=170) (.ret (.inl true)) (.bq 33 1 166 false (op1=171) (.ret (.inl true)) (.bq 34 1 166 false (op1=64514) (.ret (.inl true)) (.bq 35 1 166 false (op1=64515) (.ret (.inl true)) (.ret (.inl false)))))) (λv154=>⟨mk 196 [(5,.i 127),(6,.i 126),(7,.i 124),(152,.i op1),(166,.b v154)],[]⟩) λv154=>(.br 2000166 900 166 v154 (.ret (true,([(124:Int)]:LI),([(127:Int)]:LI))) (.seg (O:=Bool) 20001750000037 (.bq 37 1 175 false (op1=176) (.ret (.inl true)) (.bq 38 1 175 false (op1=177) (.ret (.inl true)) (.bq 39 1 175 false (op1=64518) (.ret (.inl true)) (.bq 40 1 175 false (op1=64519) (.ret (.inl true)) (.bq 41 1 175 false (op1=189) (.ret (.inl true)) (.ret (.inl false))))))) (λv156=>⟨mk 196 [(5,.i 127),(6,.i 126),(7,.i 124),(152,.i op1),(175,.b v156)],[]⟩) λv156=>(.br 2000175 900 175 v156 (.ret (true,([(124:Int)]:LI),([(126:Int)]:LI))) (.seg (O:=Bool) 20001850000043 (.bq 43 1 185 false (op1=183) (.ret (.inl true)) (.bq 44 1 185 false (op1=184) (.ret (.inl true)) (.ret (.inl false)))) (λv158=>⟨mk 196 [(5,.i 127),(6,.i 126),(7,.i 124),(152,.i op1),(185,.b v158)],[]⟩) λv158=>(.br 2000185 900 185 v158 (.ret (true,([(127:Int)]:LI),([(124:Int)]:LI))) (.ret (true,([(126:Int)]:LI),([(124:Int)]:LI)))))))))))))
theorem aO.ok:op k 184 ([.i op1],[]) (λv159=>(.tup [.o 0 1 v159.q1.length,.o 1 1 v159.l2.length,.b v159.1],[bl 1 (eI .i64) v159.q1,bl 1 (eI .i64) v159.l2])) (aO.f k op1):=by apply oP (aO.s · op1) k
end
def dY.b3(k:Nat):(Int×LI)->Option ((Int×LI)⊕(LI)):=λ(op47,h48)=>(if op47<=196 then(segB ((aO.f k op47).bind λ(r66,r67,r68)=>(if r66=true then(if aad (h48.length+1) 8 then(some (.inl (h48++([op47]:LI))))else none)else(some (.inl h48)))) (λh65=>(some (.inl ((iadd .i64 op47 1),h65)))))else(some (.inr h48)))
def dY.f:Nat->Option (LI)
 | 0=>none
 | k+1=>((loopS (dY.b3 k) k ((69:Int),([]:LI))).bind λh59=>(if aad (h59.length+11) 8 then(some (h59++([(64514:Int),(64515:Int),(64518:Int),(64519:Int),(192:Int),(193:Int),(194:Int),(195:Int),(196:Int),(64514:Int),(64518:Int)]:LI)))else none))
section
variable(k:Nat)
noncomputable def dY.s:Sc (LI):=(.loop (V:=Int×LI) (O:=LI) 3 ((69:Int),([]:LI)) (λv60=>⟨mk 24 [(1,.o 0 1 v60.2.length),(2,.i v60.1)],[bl 1 (eI .i64) v60.2]⟩) (λv60=>(.bq 3 1 7 false (v60.1<=196) (.seg (O:=LI) 4 (.cl 5 1 (aO.ok k v60.1) λv69=>(.br 6 0 16 v69.1 (.ch 7 3 (aad (v60.2.length+1) 8) (aaa 8 v60.2.length ([v60.1]:LI) (mX (eI .i64) ([v60.1]:LI))) (.rS 7 3 20 (aac 4 1 v60.2 ([v60.1]:LI) (mX (eI .i64) ([v60.1]:LI))) (.rB 7 3 4 (aab 1 (eI .i64) v60.2 ([v60.1]:LI) (mX (eI .i64) ([v60.1]:LI))) (.ret (.inl (v60.2++([v60.1]:LI))))))) (.ret (.inl v60.2)))) (λv70=>⟨mk 24 [(1,.o 0 1 v70.length),(2,.i v60.1)],[bl 1 (eI .i64) v70]⟩) λv70=>(.ret (.inl ((iadd .i64 v60.1 1),v70)))) (.ret (.inr v60.2)))) (.exit 0) (λv71=>⟨mk 24 [(1,.o 0 1 v71.length)],[bl 1 (eI .i64) v71]⟩) λv71=>(.ch 8 2 (aad (v71.length+11) 8) (aaa 8 v71.length ([(64514:Int),(64515:Int),(64518:Int),(64519:Int),(192:Int),(193:Int),(194:Int),(195:Int),(196:Int),(64514:Int),(64518:Int)]:LI) (mX (eI .i64) ([(64514:Int),(64515:Int),(64518:Int),(64519:Int),(192:Int),(193:Int),(194:Int),(195:Int),(196:Int),(64514:Int),(64518:Int)]:LI))) (.rS 8 2 23 (aac 2 1 v71 ([(64514:Int),(64515:Int),(64518:Int),(64519:Int),(192:Int),(193:Int),(194:Int),(195:Int),(196:Int),(64514:Int),(64518:Int)]:LI) (mX (eI .i64) ([(64514:Int),(64515:Int),(64518:Int),(64519:Int),(192:Int),(193:Int),(194:Int),(195:Int),(196:Int),(64514:Int),(64518:Int)]:LI))) (.rB 8 2 2 (aab 1 (eI .i64) v71 ([(64514:Int),(64515:Int),(64518:Int),(64519:Int),(192:Int),(193:Int),(194:Int),(195:Int),(196:Int),(64514:Int),(64518:Int)]:LI) (mX (eI .i64) ([(64514:Int),(64515:Int),(64518:Int),(64519:Int),(192:Int),(193:Int),(194:Int),(195:Int),(196:Int),(64514:Int),(64518:Int)]:LI))) (.ret (v71++([(64514:Int),(64515:Int),(64518:Int),(64519:Int),(192:Int),(193:Int),(194:Int),(195:Int),(196:Int),(64514:Int),(64518:Int)]:LI)))))))
theorem dY.ok:op k 254 ([],[]) (λv72=>(.o 0 1 v72.length,[bl 1 (eI .i64) v72])) (dY.f k):=by apply oP (dY.s ·) k
end
def eh.b4(k:Nat)(g13 l18:LI):Int->Option (Int⊕(Unit⊕Unit)):=λi65=>(if i65<(l18.length:Int)then(let y85:Int:=(iadd .i64 (isub .i64 (g13.length:Int) (l18.length:Int)) i65);((at? g13 y85).bind λe87=>((at? l18 i65).bind λe89=>(if e87=e89 then(some (.inl (iadd .i64 i65 1)))else(some (.inr (.inr ())))))))else(some (.inr (.inl ()))))
def eh.f:Nat->LI->Int->LTy->LIm->LFu->LMe->LGl->LEx->LDa->LI->LI->LI->LI->List (LI)->LIn->Int->Bool->LI->Int->Option (Bool)
 | 0,_,_,_,_,_,_,_,_,_,_,_,_,_,_,_,_,_,_,_=>none
 | k+1,g1,g2,g3,g4,g5,g6,g7,g8,g9,g10,g11,g12,g13,g14,g15,g16,g17,l18,height19=>(if(isub .i64 (g13.length:Int) height19)<(l18.length:Int)then(some false)else(altB (loopS (eh.b4 k g13 l18) k (0:Int)) (λ_=>(some true)) (λ_=>(some false))))
section
variable(k:Nat)(g1:LI)(g2:Int)(g3:LTy)(g4:LIm)(g5:LFu)(g6:LMe)(g7:LGl)(g8:LEx)(g9:LDa)(g10 g11:LI)(g12 g13:LI)(g14:List (LI))(g15:LIn)(g16:Int)(g17:Bool)(l18:LI)(height19:Int)
noncomputable def eh.s:Sc (Bool):=(.rS 1 4 12 (lm (eI .i64) g13) (.rS 1 8 16 (lm (eI .i64) l18) (.bq 1 9 17 false ((isub .i64 (g13.length:Int) height19)<(l18.length:Int)) (.ret false) (.loop2 (V:=Int) (O:=Unit) (O2:=Unit) 4 (0:Int) (λv78=>⟨mk 45 [(0,.c (.v (.ref [.ref [.l 1 (eI .i64) g1,.i g2],.l 2 af.e g3,.l 3 ak.e g4,.l 3 aj.e g5,.l 2 au.e g6,.l 3 ai.e g7,.l 3 ae.e g8,.l 4 aA.e g9,.n,.l 1 (eI .i64) g10,.l 1 (eI .i64) g11,.l 1 (eI .i64) g12,.l 1 (eI .i64) g13,.l 1 (eL 1 (eI .i64)) g14,.l 5 ag.e g15,.i g16,.bool g17]))),(1,.l 1 (eI .i64) l18),(7,.i v78)],[]⟩) (λv78=>(.rS 4 2 20 (lm (eI .i64) l18) (.bq 4 3 21 false (v78<(l18.length:Int)) (.rS 6 8 32 (lm (eI .i64) g13) (.rS 6 10 34 (lm (eI .i64) l18) (.nm 6 13 37 .i64 (iadd .i64 (isub .i64 (g13.length:Int) (l18.length:Int)) v78) λv86=>(.op 6 14 (Rd.el (eI .i64) g13 v86) λv88=>(.op 6 18 (Rd.el (eI .i64) l18 v78) λv90=>(.bq 6 20 44 true (v88=v90) (.ret (.inl (iadd .i64 v78 1))) (.ret (.inr (.inr ()))))))))) (.ret (.inr (.inl ())))))) (.exit 0) (λv91=>⟨mk 45 [],[]⟩) (λv91=>(.ret true)) .ret (λv92=>⟨mk 45 [(6,.b false)],[]⟩) λv92=>(.ret false)))))
theorem eh.ok:op k 172 ([.c (.v (.ref [.ref [.l 1 (eI .i64) g1,.i g2],.l 2 af.e g3,.l 3 ak.e g4,.l 3 aj.e g5,.l 2 au.e g6,.l 3 ai.e g7,.l 3 ae.e g8,.l 4 aA.e g9,.n,.l 1 (eI .i64) g10,.l 1 (eI .i64) g11,.l 1 (eI .i64) g12,.l 1 (eI .i64) g13,.l 1 (eL 1 (eI .i64)) g14,.l 5 ag.e g15,.i g16,.bool g17])),.l 1 (eI .i64) l18,.i height19],[]) (λv93=>(.b v93,[])) (eh.f k g1 g2 g3 g4 g5 g6 g7 g8 g9 g10 g11 g12 g13 g14 g15 g16 g17 l18 height19):=by apply oB (λ_=>eh.s g1 g2 g3 g4 g5 g6 g7 g8 g9 g10 g11 g12 g13 g14 g15 g16 g17 l18 height19) k
end
def aw.f:Nat->Int->Int->Int->Int->LTy->LIm->LGl->LDa->LI->LI->Int->Bool->LI->Int->LFu->LMe->LEx->LI->LI->List (LI)->LIn->Option (LIn)
 | 0,_,_,_,_,_,_,_,_,_,_,_,_,_,_,_,_,_,_,_,_,_=>none
 | k+1,i1,i2,i3,i4,h5,h6,h7,h8,h9,h10,h11,h12,h13,h14,h15,h16,h17,h18,h19,h20,h21=>(if aad (h21.length+1) 56 then(some (h21++([(ag.mk i1 i2 i3 i4 ([]:LI))]:LIn)))else none)
section
variable(k:Nat)(i1 i2:Int)(i3 i4:Int)(h5:LTy)(h6:LIm)(h7:LGl)(h8:LDa)(h9 h10:LI)(h11:Int)(h12:Bool)(h13:LI)(h14:Int)(h15:LFu)(h16:LMe)(h17:LEx)(h18 h19:LI)(h20:List (LI))(h21:LIn)
noncomputable def aw.s:Sc (LIn):=(.ch 1 7 (aad (h21.length+1) 56) (aaa 56 h21.length ([(ag.mk i1 i2 i3 i4 ([]:LI))]:LIn) (mX ag.e ([(ag.mk i1 i2 i3 i4 ([]:LI))]:LIn))) (.rS 1 7 11 (aac 11 5 h21 ([(ag.mk i1 i2 i3 i4 ([]:LI))]:LIn) (mX ag.e ([(ag.mk i1 i2 i3 i4 ([]:LI))]:LIn))) (.rB 1 7 11 (aab 5 ag.e h21 ([(ag.mk i1 i2 i3 i4 ([]:LI))]:LIn) (mX ag.e ([(ag.mk i1 i2 i3 i4 ([]:LI))]:LIn))) (.ret (h21++([(ag.mk i1 i2 i3 i4 ([]:LI))]:LIn))))))
theorem aw.ok:op k 59 ([.p 0 17 0 0,.agp [.i i1,.i i2,.i i3,.int .u64 i4,.n]],[k4 1 h5 h6 2 h15.length 3 h16.length h7 4 h17.length h8 5 h18.length h9 h10 6 h19.length 7 h20.length 8 h21.length h11 h12,bp 2 [.l 1 (eI .i64) h13,.i h14],bl 3 aj.e h15,bl 2 au.e h16,bl 3 ae.e h17,bl 1 (eI .i64) h18,bl 1 (eI .i64) h19,bl 1 (eL 1 (eI .i64)) h20,bl 5 ag.e h21]) (λv23=>(.tup [],[k4 1 h5 h6 2 h15.length 3 h16.length h7 4 h17.length h8 5 h18.length h9 h10 6 h19.length 7 h20.length 9 v23.length h11 h12,bp 2 [.l 1 (eI .i64) h13,.i h14],bl 3 aj.e h15,bl 2 au.e h16,bl 3 ae.e h17,bl 1 (eI .i64) h18,bl 1 (eI .i64) h19,bl 1 (eL 1 (eI .i64)) h20,none,bl 5 ag.e v23])) (aw.f k i1 i2 i3 i4 h5 h6 h7 h8 h9 h10 h11 h12 h13 h14 h15 h16 h17 h18 h19 h20 h21):=by apply oP (λ_=>aw.s i1 i2 i3 i4 h21) k
end
def dB.f:Nat->Int->LTy->LIm->LGl->LDa->LI->LI->Int->Bool->LI->Int->LFu->LMe->LEx->LI->LI->List (LI)->LIn->Option (Int×LI×LIn)
 | 0,_,_,_,_,_,_,_,_,_,_,_,_,_,_,_,_,_,_=>none
 | k+1,t1,h2,h3,h4,h5,h6,h7,h8,h9,h10,h11,h12,h13,h14,h15,h16,h17,h18=>((aa.f k (40:Int) h10 h11).bind λ(r49,r50)=>(segB ((aa.f k (4:Int) h10 r50).bind λ(r62,r63)=>(if r62=0 then((aa.f k (12:Int) h10 r63).bind λ(r65,r66)=>(if(0:Int)<=r65/\r65<(12:Int)then(([(18446744073709551615:Int),(9223372036854775808:Int),(2147483647:Int),(2147483648:Int),(9218868437227405312:Int),(9221120237041090560:Int),(18442240474082181120:Int),(4609434218613702656:Int),(4746794007246405632:Int),(13970166044103278592:Int),(9223372036854775808:Int),(4890909195324358656:Int)]:LI)[(r65).toNat]?.bind λe68=>(some (.inl (e68,r66))))else none))else(some (.inl ((icv .u64 r49),r63))))) (λ(v60,h61)=>(segB (if t1=127 then(some (.inl ((iand .u64 v60 4294967295),(65:Int))))else(if t1=124 then(if v60<40 then(some (.inl ((iadd .u64 4607182418800017408 (ishl .u64 v60 50)),(68:Int))))else(some (.inl (v60,(68:Int)))))else(some (.inl (v60,(66:Int)))))) (λ(v71,op72)=>((aw.f k op72 (0:Int) (0:Int) v71 h2 h3 h4 h5 h6 h7 h8 h9 h10 h61 h12 h13 h14 h15 h16 h17 h18).bind λr74=>(if aad (h16.length+1) 8 then(some (h61,(h16++([t1]:LI)),r74))else none)))))))
section
variable(k:Nat)(t1:Int)(h2:LTy)(h3:LIm)(h4:LGl)(h5:LDa)(h6 h7:LI)(h8:Int)(h9:Bool)(h10:LI)(h11:Int)(h12:LFu)(h13:LMe)(h14:LEx)(h15 h16:LI)(h17:List (LI))(h18:LIn)
noncomputable def dB.s:Sc (Int×LI×LIn):=(.cl 0 4 (aa.ok k (40:Int) h10 h11) λv51=>(.seg (O:=Int×Int) 3 (.cl 1 4 (aa.ok k (4:Int) h10 v51.2) λv64=>(.bq 1 5 17 false (v64.1=0) (.cl 2 5 (aa.ok k (12:Int) h10 v64.2) λv67=>(.ck 2 6 [(0:Int)<=v67.1,v67.1<(12:Int)] (.op 2 7 (Rd.ld 1 (eI .u64) ([(18446744073709551615:Int),(9223372036854775808:Int),(2147483647:Int),(2147483648:Int),(9218868437227405312:Int),(9221120237041090560:Int),(18442240474082181120:Int),(4609434218613702656:Int),(4746794007246405632:Int),(13970166044103278592:Int),(9223372036854775808:Int),(4890909195324358656:Int)]:LI) ((v67.1).toNat)) λv69=>(.ret (.inl (v69,v67.2)))))) (.ret (.inl ((icv .u64 v51.1),v64.2))))) (λv70=>⟨mk 52 [(0,.p 0 17 0 0),(1,.i t1),(4,.c (.v (.int .u64 v70.1)))],[k4 1 h2 h3 2 h12.length 3 h13.length h4 4 h14.length h5 5 h15.length h6 h7 6 h16.length 7 h17.length 8 h18.length h8 h9,bp 2 [.l 1 (eI .i64) h10,.i v70.2],bl 3 aj.e h12,bl 2 au.e h13,bl 3 ae.e h14,bl 1 (eI .i64) h15,bl 1 (eI .i64) h16,bl 1 (eL 1 (eI .i64)) h17,bl 5 ag.e h18]⟩) λv70=>(.seg (O:=Int×Int) 10 (.bq 4 1 27 false (t1=127) (.ret (.inl ((iand .u64 v70.1 4294967295),(65:Int)))) (.bq 6 1 31 false (t1=124) (.bq 8 1 33 false (v70.1<40) (.prf 9 1 [(0:Int)<=50] ⟨by decide,trivial⟩ (.ret (.inl ((iadd .u64 4607182418800017408 (ishl .u64 v70.1 50)),(68:Int))))) (.ret (.inl (v70.1,(68:Int))))) (.ret (.inl (v70.1,(66:Int)))))) (λv73=>⟨mk 52 [(0,.p 0 17 0 0),(1,.i t1),(4,.c (.v (.int .u64 v73.1))),(5,.i v73.2)],[k4 1 h2 h3 2 h12.length 3 h13.length h4 4 h14.length h5 5 h15.length h6 h7 6 h16.length 7 h17.length 8 h18.length h8 h9,bp 2 [.l 1 (eI .i64) h10,.i v70.2],bl 3 aj.e h12,bl 2 au.e h13,bl 3 ae.e h14,bl 1 (eI .i64) h15,bl 1 (eI .i64) h16,bl 1 (eL 1 (eI .i64)) h17,bl 5 ag.e h18]⟩) λv73=>(.cl 10 4 (aw.ok k v73.2 (0:Int) (0:Int) v73.1 h2 h3 h4 h5 h6 h7 h8 h9 h10 v70.2 h12 h13 h14 h15 h16 h17 h18) λv75=>(.ch 11 7 (aad (h16.length+1) 8) (aaa 8 h16.length ([t1]:LI) (mX (eI .i64) ([t1]:LI))) (.rS 11 7 49 (aac 11 1 h16 ([t1]:LI) (mX (eI .i64) ([t1]:LI))) (.rB 11 7 11 (aab 1 (eI .i64) h16 ([t1]:LI) (mX (eI .i64) ([t1]:LI))) (.ret (v70.2,(h16++([t1]:LI)),v75)))))))))
theorem dB.ok:op k 263 ([.p 0 17 0 0,.i t1],[k4 1 h2 h3 2 h12.length 3 h13.length h4 4 h14.length h5 5 h15.length h6 h7 6 h16.length 7 h17.length 8 h18.length h8 h9,bp 2 [.l 1 (eI .i64) h10,.i h11],bl 3 aj.e h12,bl 2 au.e h13,bl 3 ae.e h14,bl 1 (eI .i64) h15,bl 1 (eI .i64) h16,bl 1 (eL 1 (eI .i64)) h17,bl 5 ag.e h18]) (λv76=>(.tup [],[k4 1 h2 h3 2 h12.length 3 h13.length h4 4 h14.length h5 5 h15.length h6 h7 9 v76.q1.length 7 h17.length 10 v76.l2.length h8 h9,bp 2 [.l 1 (eI .i64) h10,.i v76.1],bl 3 aj.e h12,bl 2 au.e h13,bl 3 ae.e h14,bl 1 (eI .i64) h15,none,bl 1 (eL 1 (eI .i64)) h17,none,bl 1 (eI .i64) v76.q1,bl 5 ag.e v76.l2])) (dB.f k t1 h2 h3 h4 h5 h6 h7 h8 h9 h10 h11 h12 h13 h14 h15 h16 h17 h18):=by apply oP (dB.s · t1 h2 h3 h4 h5 h6 h7 h8 h9 h10 h11 h12 h13 h14 h15 h16 h17 h18) k
end
def aH.b3(k:Nat)(t1:Int)(h2:LTy)(h3:LIm)(h4:LGl)(h5:LDa)(h6 h7:LI)(h8:Int)(h9:Bool)(h10:LI)(h12:LFu)(h13:LMe)(h14:LEx)(h15 h16:LI)(h17:List (LI))(h18:LIn):(Int×Int)->Option ((Int×Int)⊕(Int⊕(Int×LIn))):=λ(k292,h293)=>(if k292<(h15.length:Int)then((aa.f k (3:Int) h10 h293).bind λ(r319,r320)=>(if(h15.length:Int)≠0 then(if(0:Int)<=(irem .i64 (iadd .i64 k292 r319) (h15.length:Int))/\(irem .i64 (iadd .i64 k292 r319) (h15.length:Int))<(h15.length:Int)then(h15[((irem .i64 (iadd .i64 k292 r319) (h15.length:Int))).toNat]?.bind λe322=>(if e322=t1 then((aw.f k (32:Int) (irem .i64 (iadd .i64 k292 r319) (h15.length:Int)) (0:Int) (0:Int) h2 h3 h4 h5 h6 h7 h8 h9 h10 r320 h12 h13 h14 h15 h16 h17 h18).bind λr324=>(if aad (h16.length+1) 8 then(some (.inr (.inr (r320,r324))))else none))else(some (.inl ((iadd .i64 k292 1),r320)))))else none)else none))else(some (.inr (.inl h293))))
def aH.b11(k:Nat)(t1:Int)(h2:LTy)(h3:LIm)(h4:LGl)(h5:LDa)(h6 h7:LI)(h8:Int)(h9:Bool)(h10:LI)(h12:LFu)(h13:LMe)(h14:LEx)(h15 h16:LI)(h17:List (LI))(h18:LIn)(r276:Int):Int->Option (Int⊕(Unit⊕(LIn))):=λk336=>(if k336<(h4.length:Int)then((at? h4 k336).bind λe351=>(if e351.fType=t1 then((aw.f k (35:Int) k336 (0:Int) (0:Int) h2 h3 h4 h5 h6 h7 h8 h9 h10 r276 h12 h13 h14 h15 h16 h17 h18).bind λr353=>(if aad (h16.length+1) 8 then(some (.inr (.inr r353)))else none))else(some (.inl (iadd .i64 k336 1)))))else(some (.inr (.inl ()))))
def aH.f:Nat->Int->LTy->LIm->LGl->LDa->LI->LI->Int->Bool->LI->Int->LFu->LMe->LEx->LI->LI->List (LI)->LIn->Option (Int×LI×LIn)
 | 0,_,_,_,_,_,_,_,_,_,_,_,_,_,_,_,_,_,_=>none
 | k+1,t1,h2,h3,h4,h5,h6,h7,h8,h9,h10,h11,h12,h13,h14,h15,h16,h17,h18=>(segB ((aa.f k (3:Int) h10 h11).bind λ(r275,r276)=>(if r275=0 then(altB (loopS (aH.b3 k t1 h2 h3 h4 h5 h6 h7 h8 h9 h10 h12 h13 h14 h15 h16 h17 h18) k ((0:Int),r276)) (λh308=>(some (.inl h308))) (λ(h309,h310)=>(some (.inr (h309,(h16++([t1]:LI)),h310)))))else(if r275=1 then(altB (loopS (aH.b11 k t1 h2 h3 h4 h5 h6 h7 h8 h9 h10 h12 h13 h14 h15 h16 h17 h18 r276) k (0:Int)) (λ_=>(some (.inl r276))) (λh345=>(some (.inr (r276,(h16++([t1]:LI)),h345)))))else(some (.inl r276))))) (λh274=>((dB.f k t1 h2 h3 h4 h5 h6 h7 h8 h9 h10 h274 h12 h13 h14 h15 h16 h17 h18).bind λ(r358,r359,r360)=>(some (r358,r359,r360)))))
section
variable(k:Nat)(t1:Int)(h2:LTy)(h3:LIm)(h4:LGl)(h5:LDa)(h6 h7:LI)(h8:Int)(h9:Bool)(h10:LI)(h11:Int)(h12:LFu)(h13:LMe)(h14:LEx)(h15 h16:LI)(h17:List (LI))(h18:LIn)
noncomputable def aH.s:Sc (Int×LI×LIn):=(.seg (O:=Int) 16 (.cl 0 4 (aa.ok k (3:Int) h10 h11) λv277=>(.bq 1 1 12 false (v277.1=0) (.loop2 (V:=Int×Int) (O:=Int) (O2:=Int×LIn) 3 ((0:Int),v277.2) (λv311=>⟨mk 99 [(0,.p 0 17 0 0),(1,.i t1),(4,.i v311.1)],[k4 1 h2 h3 2 h12.length 3 h13.length h4 4 h14.length h5 5 h15.length h6 h7 6 h16.length 7 h17.length 8 h18.length h8 h9,bp 2 [.l 1 (eI .i64) h10,.i v311.2],bl 3 aj.e h12,bl 2 au.e h13,bl 3 ae.e h14,bl 1 (eI .i64) h15,bl 1 (eI .i64) h16,bl 1 (eL 1 (eI .i64)) h17,bl 5 ag.e h18]⟩) (λv311=>(.bq 3 6 20 false (v311.1<(h15.length:Int)) (.cl 5 5 (aa.ok k (3:Int) h10 v311.2) λv321=>(.ck 5 12 [(h15.length:Int)≠0] (.ck 6 5 [(0:Int)<=(irem .i64 (iadd .i64 v311.1 v321.1) (h15.length:Int)),(irem .i64 (iadd .i64 v311.1 v321.1) (h15.length:Int))<(h15.length:Int)] (.op 6 6 (Rd.ld 1 (eI .i64) h15 (((irem .i64 (iadd .i64 v311.1 v321.1) (h15.length:Int))).toNat)) λv323=>(.bq 6 8 44 false (v323=t1) (.cl 7 3 (aw.ok k (32:Int) (irem .i64 (iadd .i64 v311.1 v321.1) (h15.length:Int)) (0:Int) (0:Int) h2 h3 h4 h5 h6 h7 h8 h9 h10 v321.2 h12 h13 h14 h15 h16 h17 h18) λv325=>(.ch 8 7 (aad (h16.length+1) 8) (aaa 8 h16.length ([t1]:LI) (mX (eI .i64) ([t1]:LI))) (.rS 8 7 56 (aac 11 1 h16 ([t1]:LI) (mX (eI .i64) ([t1]:LI))) (.rB 8 7 11 (aab 1 (eI .i64) h16 ([t1]:LI) (mX (eI .i64) ([t1]:LI))) (.ret (.inr (.inr (v321.2,v325)))))))) (.ret (.inl ((iadd .i64 v311.1 1),v321.2)))))))) (.ret (.inr (.inl v311.2))))) (.exit 1) (λv326=>⟨mk 99 [(0,.p 0 17 0 0),(1,.i t1)],[k4 1 h2 h3 2 h12.length 3 h13.length h4 4 h14.length h5 5 h15.length h6 h7 6 h16.length 7 h17.length 8 h18.length h8 h9,bp 2 [.l 1 (eI .i64) h10,.i v326],bl 3 aj.e h12,bl 2 au.e h13,bl 3 ae.e h14,bl 1 (eI .i64) h15,bl 1 (eI .i64) h16,bl 1 (eL 1 (eI .i64)) h17,bl 5 ag.e h18]⟩) (λv326=>(.ret (.inl v326))) .ret (λv327=>⟨mk 99 [(0,.p 0 17 0 0),(1,.i t1)],[k4 1 h2 h3 2 h12.length 3 h13.length h4 4 h14.length h5 5 h15.length h6 h7 9 (((h16++([t1]:LI))).length) 7 h17.length 10 v327.2.length h8 h9,bp 2 [.l 1 (eI .i64) h10,.i v327.1],bl 3 aj.e h12,bl 2 au.e h13,bl 3 ae.e h14,bl 1 (eI .i64) h15,none,bl 1 (eL 1 (eI .i64)) h17,none,bl 1 (eI .i64) (h16++([t1]:LI)),bl 5 ag.e v327.2]⟩) λv327=>(.ret (.inr (v327.1,(h16++([t1]:LI)),v327.2)))) (.bq 9 1 59 false (v277.1=1) (.loop2 (V:=Int) (O:=Unit) (O2:=LIn) 11 (0:Int) (λv346=>⟨mk 99 [(0,.p 0 17 0 0),(1,.i t1),(6,.i v346)],[k4 1 h2 h3 2 h12.length 3 h13.length h4 4 h14.length h5 5 h15.length h6 h7 6 h16.length 7 h17.length 8 h18.length h8 h9,bp 2 [.l 1 (eI .i64) h10,.i v277.2],bl 3 aj.e h12,bl 2 au.e h13,bl 3 ae.e h14,bl 1 (eI .i64) h15,bl 1 (eI .i64) h16,bl 1 (eL 1 (eI .i64)) h17,bl 5 ag.e h18]⟩) (λv346=>(.rS 11 6 67 (lm ai.e h4) (.bq 11 7 68 false (v346<(h4.length:Int)) (.op 13 6 (Rd.el ai.e h4 v346) λv352=>(.bq 13 10 81 false (v352.fType=t1) (.cl 14 3 (aw.ok k (35:Int) v346 (0:Int) (0:Int) h2 h3 h4 h5 h6 h7 h8 h9 h10 v277.2 h12 h13 h14 h15 h16 h17 h18) λv354=>(.ch 15 7 (aad (h16.length+1) 8) (aaa 8 h16.length ([t1]:LI) (mX (eI .i64) ([t1]:LI))) (.rS 15 7 93 (aac 11 1 h16 ([t1]:LI) (mX (eI .i64) ([t1]:LI))) (.rB 15 7 11 (aab 1 (eI .i64) h16 ([t1]:LI) (mX (eI .i64) ([t1]:LI))) (.ret (.inr (.inr v354))))))) (.ret (.inl (iadd .i64 v346 1))))) (.ret (.inr (.inl ())))))) (.exit 3) (λv355=>⟨mk 99 [(0,.p 0 17 0 0),(1,.i t1)],[k4 1 h2 h3 2 h12.length 3 h13.length h4 4 h14.length h5 5 h15.length h6 h7 6 h16.length 7 h17.length 8 h18.length h8 h9,bp 2 [.l 1 (eI .i64) h10,.i v277.2],bl 3 aj.e h12,bl 2 au.e h13,bl 3 ae.e h14,bl 1 (eI .i64) h15,bl 1 (eI .i64) h16,bl 1 (eL 1 (eI .i64)) h17,bl 5 ag.e h18]⟩) (λv355=>(.ret (.inl v277.2))) .ret (λv356=>⟨mk 99 [(0,.p 0 17 0 0),(1,.i t1)],[k4 1 h2 h3 2 h12.length 3 h13.length h4 4 h14.length h5 5 h15.length h6 h7 9 (((h16++([t1]:LI))).length) 7 h17.length 10 v356.length h8 h9,bp 2 [.l 1 (eI .i64) h10,.i v277.2],bl 3 aj.e h12,bl 2 au.e h13,bl 3 ae.e h14,bl 1 (eI .i64) h15,none,bl 1 (eL 1 (eI .i64)) h17,none,bl 1 (eI .i64) (h16++([t1]:LI)),bl 5 ag.e v356]⟩) λv356=>(.ret (.inr (v277.2,(h16++([t1]:LI)),v356)))) (.ret (.inl v277.2))))) (λv357=>⟨mk 99 [(0,.p 0 17 0 0),(1,.i t1)],[k4 1 h2 h3 2 h12.length 3 h13.length h4 4 h14.length h5 5 h15.length h6 h7 6 h16.length 7 h17.length 8 h18.length h8 h9,bp 2 [.l 1 (eI .i64) h10,.i v357],bl 3 aj.e h12,bl 2 au.e h13,bl 3 ae.e h14,bl 1 (eI .i64) h15,bl 1 (eI .i64) h16,bl 1 (eL 1 (eI .i64)) h17,bl 5 ag.e h18]⟩) λv357=>(.cl 16 2 (dB.ok k t1 h2 h3 h4 h5 h6 h7 h8 h9 h10 v357 h12 h13 h14 h15 h16 h17 h18) λv361=>(.ret (v361.1,v361.q1,v361.l2))))
theorem aH.ok:op k 173 ([.p 0 17 0 0,.i t1],[k4 1 h2 h3 2 h12.length 3 h13.length h4 4 h14.length h5 5 h15.length h6 h7 6 h16.length 7 h17.length 8 h18.length h8 h9,bp 2 [.l 1 (eI .i64) h10,.i h11],bl 3 aj.e h12,bl 2 au.e h13,bl 3 ae.e h14,bl 1 (eI .i64) h15,bl 1 (eI .i64) h16,bl 1 (eL 1 (eI .i64)) h17,bl 5 ag.e h18]) (λv362=>(.tup [],[k4 1 h2 h3 2 h12.length 3 h13.length h4 4 h14.length h5 5 h15.length h6 h7 9 v362.q1.length 7 h17.length 10 v362.l2.length h8 h9,bp 2 [.l 1 (eI .i64) h10,.i v362.1],bl 3 aj.e h12,bl 2 au.e h13,bl 3 ae.e h14,bl 1 (eI .i64) h15,none,bl 1 (eL 1 (eI .i64)) h17,none,bl 1 (eI .i64) v362.q1,bl 5 ag.e v362.l2])) (aH.f k t1 h2 h3 h4 h5 h6 h7 h8 h9 h10 h11 h12 h13 h14 h15 h16 h17 h18):=by apply oP (aH.s · t1 h2 h3 h4 h5 h6 h7 h8 h9 h10 h11 h12 h13 h14 h15 h16 h17 h18) k
end
def dv.b2(k:Nat)(h2:LTy)(h3:LIm)(h4:LGl)(h5:LDa)(h6 h7:LI)(h8:Int)(h9:Bool)(h10 h11:LI)(h13:LFu)(h14:LMe)(h15:LEx)(h16:LI)(h18:List (LI)):(Int×Int×LI×LIn)->Option ((Int×Int×LI×LIn)⊕(Int×LI×LIn)):=λ(i64,h65,h66,h67)=>(if i64<(h10.length:Int)then(if(0:Int)<=i64/\i64<(h10.length:Int)then(h10[(i64).toNat]?.bind λe78=>((aH.f k e78 h2 h3 h4 h5 h6 h7 h8 h9 h11 h65 h13 h14 h15 h16 h66 h18 h67).bind λ(r80,r81,r82)=>(some (.inl ((iadd .i64 i64 1),r80,r81,r82)))))else none)else(some (.inr (h65,h66,h67))))
def dv.f:Nat->Int->LTy->LIm->LGl->LDa->LI->LI->Int->Bool->LI->LI->Int->LFu->LMe->LEx->LI->LI->List (LI)->LIn->Option (Int×LI×LIn)
 | 0,_,_,_,_,_,_,_,_,_,_,_,_,_,_,_,_,_,_,_=>none
 | k+1,height1,h2,h3,h4,h5,h6,h7,h8,h9,h10,h11,h12,h13,h14,h15,h16,h17,h18,h19=>((eh.f k h11 h12 h2 h3 h13 h14 h4 h15 h5 h16 h6 h7 h17 h18 h19 h8 h9 h10 height1).bind λr56=>(if r56=true then(some (h12,h17,h19))else((loopS (dv.b2 k h2 h3 h4 h5 h6 h7 h8 h9 h10 h11 h13 h14 h15 h16 h18) k ((0:Int),h12,h17,h19)).bind λ(h74,h75,h76)=>(some (h74,h75,h76)))))
section
variable(k:Nat)(height1:Int)(h2:LTy)(h3:LIm)(h4:LGl)(h5:LDa)(h6 h7:LI)(h8:Int)(h9:Bool)(h10 h11:LI)(h12:Int)(h13:LFu)(h14:LMe)(h15:LEx)(h16 h17:LI)(h18:List (LI))(h19:LIn)
noncomputable def dv.s:Sc (Int×LI×LIn):=(.op 0 3 (Rd.bcall (args:=[.p 0 17 0 0,.o 1 1 h10.length,.i height1]) (h:=[k4 2 h2 h3 3 h13.length 4 h14.length h4 5 h15.length h5 6 h16.length h6 h7 7 h17.length 8 h18.length 9 h19.length h8 h9,bl 1 (eI .i64) h10,bp 2 [.l 1 (eI .i64) h11,.i h12],bl 3 aj.e h13,bl 2 au.e h14,bl 3 ae.e h15,bl 1 (eI .i64) h16,bl 1 (eI .i64) h17,bl 1 (eL 1 (eI .i64)) h18,bl 5 ag.e h19]) (eh.ok k h11 h12 h2 h3 h13 h14 h4 h15 h5 h16 h6 h7 h17 h18 h19 h8 h9 h10 height1) rfl rfl (by kernel_rfl) rfl (by kernel_rfl)) λv57=>(.br 0 3 10 v57 (.ret (h12,h17,h19)) (.loop (V:=Int×Int×LI×LIn) (O:=Int×LI×LIn) 2 ((0:Int),h12,h17,h19) (λv77=>⟨mk 23 [(0,.p 0 17 0 0),(1,.o 1 1 h10.length),(6,.i v77.1)],[k4 2 h2 h3 3 h13.length 4 h14.length h4 5 h15.length h5 6 h16.length h6 h7 10 v77.q2.length 8 h18.length 11 v77.l3.length h8 h9,bl 1 (eI .i64) h10,bp 2 [.l 1 (eI .i64) h11,.i v77.q1],bl 3 aj.e h13,bl 2 au.e h14,bl 3 ae.e h15,bl 1 (eI .i64) h16,none,bl 1 (eL 1 (eI .i64)) h18,none,bl 1 (eI .i64) v77.q2,bl 5 ag.e v77.l3]⟩) (λv77=>(.bq 2 3 14 false (v77.1<(h10.length:Int)) (.ck 4 3 [(0:Int)<=v77.1,v77.1<(h10.length:Int)] (.op 4 4 (Rd.ld 1 (eI .i64) h10 ((v77.1).toNat)) λv79=>(.cl 4 5 (aH.ok k v79 h2 h3 h4 h5 h6 h7 h8 h9 h11 v77.q1 h13 h14 h15 h16 v77.q2 h18 v77.l3) λv83=>(.ret (.inl ((iadd .i64 v77.1 1),v83.1,v83.q1,v83.l2)))))) (.ret (.inr (v77.q1,v77.q2,v77.l3))))) (.exit 0) (λv84=>⟨mk 23 [(0,.p 0 17 0 0)],[k4 2 h2 h3 3 h13.length 4 h14.length h4 5 h15.length h5 6 h16.length h6 h7 10 v84.q1.length 8 h18.length 11 v84.l2.length h8 h9,bl 1 (eI .i64) h10,bp 2 [.l 1 (eI .i64) h11,.i v84.1],bl 3 aj.e h13,bl 2 au.e h14,bl 3 ae.e h15,bl 1 (eI .i64) h16,none,bl 1 (eL 1 (eI .i64)) h18,none,bl 1 (eI .i64) v84.q1,bl 5 ag.e v84.l2]⟩) λv84=>(.ret (v84.1,v84.q1,v84.l2)))))
theorem dv.ok:op k 255 ([.p 0 17 0 0,.o 1 1 h10.length,.i height1],[k4 2 h2 h3 3 h13.length 4 h14.length h4 5 h15.length h5 6 h16.length h6 h7 7 h17.length 8 h18.length 9 h19.length h8 h9,bl 1 (eI .i64) h10,bp 2 [.l 1 (eI .i64) h11,.i h12],bl 3 aj.e h13,bl 2 au.e h14,bl 3 ae.e h15,bl 1 (eI .i64) h16,bl 1 (eI .i64) h17,bl 1 (eL 1 (eI .i64)) h18,bl 5 ag.e h19]) (λv85=>(.tup [],[k4 2 h2 h3 3 h13.length 4 h14.length h4 5 h15.length h5 6 h16.length h6 h7 10 v85.q1.length 8 h18.length 11 v85.l2.length h8 h9,bl 1 (eI .i64) h10,bp 2 [.l 1 (eI .i64) h11,.i v85.1],bl 3 aj.e h13,bl 2 au.e h14,bl 3 ae.e h15,bl 1 (eI .i64) h16,none,bl 1 (eL 1 (eI .i64)) h18,none,bl 1 (eI .i64) v85.q1,bl 5 ag.e v85.l2])) (dv.f k height1 h2 h3 h4 h5 h6 h7 h8 h9 h10 h11 h12 h13 h14 h15 h16 h17 h18 h19):=by apply oP (dv.s · height1 h2 h3 h4 h5 h6 h7 h8 h9 h10 h11 h12 h13 h14 h15 h16 h17 h18 h19) k
end
def dZ.f:Nat->LTy->LIm->LGl->LDa->LI->LI->Int->Bool->LI->LI->LI->Int->LFu->LMe->LEx->LI->LI->List (LI)->LIn->Option (LI)
 | 0,_,_,_,_,_,_,_,_,_,_,_,_,_,_,_,_,_,_,_=>none
 | k+1,h1,h2,h3,h4,h5,h6,h7,h8,h9,h10,h11,h12,h13,h14,h15,h16,h17,h18,h19=>(if(0:Int)<=(isub .i64 (h17.length:Int) (h9.length:Int))/\(0:Nat)<=((isub .i64 (h17.length:Int) (h9.length:Int))).toNat/\(((isub .i64 (h17.length:Int) (h9.length:Int))).toNat:Nat)<=h17.length then(if aad (0+(List.take (((isub .i64 (h17.length:Int) (h9.length:Int))).toNat-0) (List.drop 0 h17)).length) 8 then(if aad ((List.take (((isub .i64 (h17.length:Int) (h9.length:Int))).toNat-0) (List.drop 0 h17)).length+h10.length) 8 then(some ((List.take (((isub .i64 (h17.length:Int) (h9.length:Int))).toNat-0) (List.drop 0 h17))++h10))else none)else none)else none)
section
variable(k:Nat)(h1:LTy)(h2:LIm)(h3:LGl)(h4:LDa)(h5 h6:LI)(h7:Int)(h8:Bool)(h9 h10 h11:LI)(h12:Int)(h13:LFu)(h14:LMe)(h15:LEx)(h16 h17:LI)(h18:List (LI))(h19:LIn)
noncomputable def dZ.s:Sc (LI):=(.ck 0 14 [(0:Int)<=(isub .i64 (h17.length:Int) (h9.length:Int)),(0:Nat)<=((isub .i64 (h17.length:Int) (h9.length:Int))).toNat,(((isub .i64 (h17.length:Int) (h9.length:Int))).toNat:Nat)<=h17.length] (.ch 0 15 (aad (0+(List.take (((isub .i64 (h17.length:Int) (h9.length:Int))).toNat-0) (List.drop 0 h17)).length) 8) (aaa 8 ([]:LI).length (List.take (((isub .i64 (h17.length:Int) (h9.length:Int))).toNat-0) (List.drop 0 h17)) (midX (eI .i64) h17 0 (((isub .i64 (h17.length:Int) (h9.length:Int))).toNat-0))) (.rS 0 15 21 (aac 12 1 ([]:LI) (List.take (((isub .i64 (h17.length:Int) (h9.length:Int))).toNat-0) (List.drop 0 h17)) (midX (eI .i64) h17 0 (((isub .i64 (h17.length:Int) (h9.length:Int))).toNat-0))) (.rB 0 15 12 (aab 1 (eI .i64) ([]:LI) (List.take (((isub .i64 (h17.length:Int) (h9.length:Int))).toNat-0) (List.drop 0 h17)) (midX (eI .i64) h17 0 (((isub .i64 (h17.length:Int) (h9.length:Int))).toNat-0))) (.ch 0 17 (aad ((List.take (((isub .i64 (h17.length:Int) (h9.length:Int))).toNat-0) (List.drop 0 h17)).length+h10.length) 8) (aaa 8 (List.take (((isub .i64 (h17.length:Int) (h9.length:Int))).toNat-0) (List.drop 0 h17)).length h10 (mX (eI .i64) h10)) (.rS 0 17 23 (aac 13 1 (List.take (((isub .i64 (h17.length:Int) (h9.length:Int))).toNat-0) (List.drop 0 h17)) h10 (mX (eI .i64) h10)) (.rB 0 17 13 (aab 1 (eI .i64) (List.take (((isub .i64 (h17.length:Int) (h9.length:Int))).toNat-0) (List.drop 0 h17)) h10 (mX (eI .i64) h10)) (.ret ((List.take (((isub .i64 (h17.length:Int) (h9.length:Int))).toNat-0) (List.drop 0 h17))++h10)))))))))
theorem dZ.ok:op k 256 ([.p 0 17 0 0,.o 1 1 h9.length,.o 2 1 h10.length],[k4 3 h1 h2 4 h13.length 5 h14.length h3 6 h15.length h4 7 h16.length h5 h6 8 h17.length 9 h18.length 10 h19.length h7 h8,bl 1 (eI .i64) h9,bl 1 (eI .i64) h10,bp 2 [.l 1 (eI .i64) h11,.i h12],bl 3 aj.e h13,bl 2 au.e h14,bl 3 ae.e h15,bl 1 (eI .i64) h16,bl 1 (eI .i64) h17,bl 1 (eL 1 (eI .i64)) h18,bl 5 ag.e h19]) (λv21=>(.tup [],[k4 3 h1 h2 4 h13.length 5 h14.length h3 6 h15.length h4 7 h16.length h5 h6 11 v21.length 9 h18.length 10 h19.length h7 h8,bl 1 (eI .i64) h9,bl 1 (eI .i64) h10,bp 2 [.l 1 (eI .i64) h11,.i h12],bl 3 aj.e h13,bl 2 au.e h14,bl 3 ae.e h15,bl 1 (eI .i64) h16,bl 1 (eI .i64) h17,bl 1 (eL 1 (eI .i64)) h18,bl 5 ag.e h19,bl 1 (eI .i64) v21])) (dZ.f k h1 h2 h3 h4 h5 h6 h7 h8 h9 h10 h11 h12 h13 h14 h15 h16 h17 h18 h19):=by apply oP (λ_=>dZ.s h9 h10 h17) k
end
end Go.R4

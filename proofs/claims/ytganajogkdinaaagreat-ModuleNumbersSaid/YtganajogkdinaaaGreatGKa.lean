import Derived.Test.YtganajogkdinaaaGreatRows
import Derived.Test.YtganajogkdinaaaGreatEvShort
import Derived.KernelRfl
set_option linter.all false
namespace Go.R4
open Go.Proofs Go.Ev
set_option maxRecDepth 100000
structure AType where
 Params : List Int
 Results : List Int
def AType.e (x : AType) : List FV := [.l 1 (eI .i64) x.Params,.l 1 (eI .i64) x.Results]
structure AImport where
 Module : ByteArray
 Name : ByteArray
 fType : Int
def AImport.e (x : AImport) : List FV := [.str x.Module,.str x.Name,.i x.fType]
structure AGlobal where
 fType : Int
 Var : Bool
 Init : Int
def AGlobal.e (x : AGlobal) : List FV := [.i x.fType,.bool x.Var,.int .u64 x.Init]
structure AMem where
 Min : Int
 Max : Int
def AMem.e (x : AMem) : List FV := [.i x.Min,.i x.Max]
structure AData where
 Active : Bool
 Mem : Int
 At : Int
 Bytes : List Int
def AData.e (x : AData) : List FV := [.bool x.Active,.i x.Mem,.i x.At,.l 1 (eI .u8) x.Bytes]
structure AExport where
 Name : ByteArray
 Kind : Int
 Index : Int
def AExport.e (x : AExport) : List FV := [.str x.Name,.i x.Kind,.i x.Index]
structure AInst where
 Op : Int
 A : Int
 B : Int
 N : Int
 L : List Int
def AInst.e (x : AInst) : List FV := [.i x.Op,.i x.A,.i x.B,.int .u64 x.N,.l 1 (eI .i64) x.L]
structure AFunc where
 fType : Int
 Locals : List Int
 Code : List AInst
def AFunc.e (x : AFunc) : List FV := [.i x.fType,.l 1 (eI .i64) x.Locals,.l 5 AInst.e x.Code]
structure ACustom where
 Name : ByteArray
 Bytes : List Int
def ACustom.e (x : ACustom) : List FV := [.str x.Name,.l 1 (eI .u8) x.Bytes]
structure AModule where
 Types : List AType
 Imports : List AImport
 Funcs : List AFunc
 Mems : List AMem
 Globals : List AGlobal
 Exports : List AExport
 Datas : List AData
 Customs : List ACustom
def AModule.e (x : AModule) : List FV := [.l 2 AType.e x.Types,.l 3 AImport.e x.Imports,.l 3 AFunc.e x.Funcs,.l 2 AMem.e x.Mems,.l 3 AGlobal.e x.Globals,.l 3 AExport.e x.Exports,.l 4 AData.e x.Datas,.l 2 ACustom.e x.Customs]
structure text_kind where
 mask : Int
 mark : Int
 more : Int
 least : Int
def text_kind.e (x : text_kind) : List FV := [.int .u8 x.mask,.int .u8 x.mark,.i x.more,.int .u32 x.least]
structure module_shape where
 a : Bool
 b : Bool
 n : Bool
 l : Bool
def module_shape.e (x : module_shape) : List FV := [.bool x.a,.bool x.b,.bool x.n,.bool x.l]
def ann : FuncId → Ann := fun f id => match f with
 | 5 => (match id with
  | 2 => [.keep [1]]
  | 5 => [.frzC 2 0,.frzC 2 1,.frzC 2 2,.frzC 2 3,.frzC 2 4,.frzC 2 5,.frzC 2 6,.frzC 2 7]
  | 64 => [.nrmP 2 [none,none,none,none,none,none,none,some 2],.keep [1,2]]
  | 65 => [.keep [1,2,3]]
  | 70 => [.keep [4]]
  | 73 => [.keep [4,5]]
  | 103 => [.nrmP 6 [none,none,none,none,some 1],.keep [4,5,6]]
  | 1000002 => [.keep [0]]
  | 1000065 => [.keep [0,1]]
  | 1000070 => [.keep [0]]
  | 1000073 => [.keep [0,4]]
  | 3000007 => [.stop 1,.frz 16]
  | 3000009 => [.stop 3,.frz 22]
  | 3000011 => [.stop 3,.frz 28]
  | 3000013 => [.stop 1,.frz 32]
  | 3000015 => [.stop 2,.frz 37]
  | 3000017 => [.stop 4,.frz 44]
  | 3000019 => [.stop 2,.frz 49]
  | 3000021 => [.stop 2,.frz 54]
  | 3000023 => [.stop 3,.frz 60]
  | 3000025 => [.stop 4,.frz 67]
  | 3000027 => [.stop 1,.frz 71]
  | 3000029 => [.stop 2,.frz 76]
  | 3000031 => [.stop 2,.frz 81]
  | 3000033 => [.stop 2,.frz 86]
  | 3000035 => [.stop 2,.frz 91]
  | 3000037 => [.stop 2,.frz 96]
  | 3000039 => [.stop 4,.frz 103]
  | 3000041 => [.stop 2,.frz 108]
  | 3000043 => [.stop 2,.frz 113]
  | 3000045 => [.stop 1,.frz 117]
  | 3000047 => [.stop 2,.frz 122]
  | 3000049 => [.stop 2,.frz 127]
  | 3000051 => [.stop 2,.frz 132]
  | 3000053 => [.stop 2,.frz 137]
  | 3000055 => [.stop 1,.frz 141]
  | 3000057 => [.stop 1,.frz 145]
  | 3000059 => [.stop 3,.frz 151]
  | 3000061 => [.stop 3,.frz 157]
  | 3000063 => [.stop 3,.frz 163]
  | 3000067 => [.stop 1,.frz 169]
  | 3000098 => [.stop 1,.frz 217]
  | 3000100 => [.stop 1,.frz 221]
  | 3000102 => [.stop 1,.frz 225]
  | _ => [])
 | 6 => (match id with
  | 3000001 => [.stop 2,.frz 16,.nrm 16 [some 2,some 3,some 3,some 2,some 3,some 3,some 4,some 2]]
  | 3000002 => [.stop 3,.frz 19,.nrm 19 [some 2,some 3,some 3,some 2,some 3,some 3,some 4,some 2]]
  | _ => [])
 | 15 => (match id with
  | 3 => [.frzC 4 0]
  | 4 => [.frzC 4 1]
  | 5 => [.frzC 4 4]
  | 7 => [.ownC 4 3 2,.keep [2,3,4,5,6]]
  | 12 => [.frzC 4 6]
  | 13 => [.ownC 4 5 3,.nrmP 4 [none,none,none,none,none,none,some 4,none],.keep [2,3,4]]
  | 15 => [.ownC 4 2 3,.keep [2,3,4,7,8]]
  | 19 => [.ownC 9 1 1,.keep [2,3,4,7,8,9,10]]
  | 26 => [.keep [2,3,4,7,11]]
  | 31 => [.ownC 12 12 1,.ownC 12 14 5]
  | 33 => [.keep [2,3,4,7,11,12]]
  | 34 => [.frzC 12 14]
  | 1000007 => [.keep [2,3,4,5]]
  | 1000015 => [.keep [2,3,4,7]]
  | 1000019 => [.keep [2,3,4,7,8,9]]
  | 1000026 => [.keep [2,4]]
  | 3000022 => [.stop 3,.frz 102]
  | _ => [])
 | 16 => (match id with
  | 3 => [.ownC 3 0 2,.keep [1,2,3,28,29,30]]
  | 8 => [.ownC 3 2 3,.keep [1,2,3,43,44,45]]
  | 12 => [.keep [1,2,3,7,8,43,44,45,53,54]]
  | 19 => [.ownC 3 6 4,.keep [1,2,3,82,83,84]]
  | 25 => [.ownC 3 7 2,.keep [2,3,100,101,102]]
  | 1000003 => [.keep [1,2,3]]
  | 1000008 => [.keep [1,2,3]]
  | 1000012 => [.keep [1,2,3,7,8,43,44,45]]
  | 1000019 => [.keep [1,2,3]]
  | 1000025 => [.keep [2,3]]
  | 5000016 => [.cls 78]
  | _ => [])
 | 18 => (match id with
  | 4 => [.keep [2,3,80,81]]
  | 10 => [.keep [2,3,99,100]]
  | 16 => [.keep [2,3,117,118]]
  | 1000004 => [.keep [2,3,4]]
  | 1000010 => [.keep [2,3,4]]
  | 1000016 => [.keep [2,3,4]]
  | _ => [])
 | 20 => (match id with
  | 7 => [.keep [1,2,4]]
  | _ => [])
 | 23 => (match id with
  | 4 => [.keep [0,1,5]]
  | 1000004 => [.keep [4]]
  | _ => [])
 | 28 => (match id with
  | 7 => [.keep [1,3,4,5,6,7]]
  | 9 => [.keep [1,4,5,6]]
  | 12 => [.keep [1,4,5,6,8]]
  | 14 => [.keep [1,5,6]]
  | 16 => [.keep [1,6]]
  | 19 => [.keep [1,9]]
  | 1000019 => [.keep [1,2]]
  | _ => [])
 | 29 => (match id with
  | 0 => [.frz 0,.frz 1]
  | _ => [])
 | 30 => (match id with
  | 2000006 => [.keep [1,6]]
  | _ => [])
 | 38 => (match id with
  | 3 => [.keep [0,1,2]]
  | _ => [])
 | 56 => (match id with
  | 6 => [.keep [2,4,6]]
  | 2000015 => [.keep [1,2,4,6,15]]
  | 2000034 => [.keep [1,2,4,6,34]]
  | _ => [])
 | 57 => (match id with
  | 2 => [.mvC 0 12,.mvC 0 14,.mvC 0 13,.keep [0,1,2,7]]
  | 1000002 => [.keep [6]]
  | _ => [])
 | 58 => (match id with
  | 1 => [.mvC 0 12,.mvC 0 14,.keep [0,1,2]]
  | 5 => [.keep [0,1,6]]
  | 1000001 => [.keep [0,1]]
  | 1000005 => [.keep [0]]
  | 3000003 => [.trimC 0 12]
  | _ => [])
 | 68 => (match id with
  | 4 => [.keep [1,2,15,16,17]]
  | 1000004 => [.keep [6]]
  | _ => [])
 | 70 => (match id with
  | 4 => [.keep [0,1,12,13]]
  | 1000004 => [.keep [4]]
  | _ => [])
 | 71 => (match id with
  | 4 => [.keep [0,1,12,13]]
  | 1000004 => [.keep [4]]
  | _ => [])
 | 72 => (match id with
  | 4 => [.keep [1,2,15,16,17]]
  | 1000004 => [.keep [6]]
  | _ => [])
 | 74 => (match id with
  | 4 => [.keep [0,1,12,13]]
  | 1000004 => [.keep [4]]
  | _ => [])
 | 75 => (match id with
  | 4 => [.keep [0,1,12,13]]
  | 1000004 => [.keep [4]]
  | _ => [])
 | 76 => (match id with
  | 4 => [.keep [0,1,12,13]]
  | 1000004 => [.keep [4]]
  | _ => [])
 | 77 => (match id with
  | 4 => [.keep [1,2,15,16,17]]
  | 1000004 => [.keep [6]]
  | _ => [])
 | 80 => (match id with
  | 4 => [.keep [1,2,15,16,17]]
  | 1000004 => [.keep [6]]
  | _ => [])
 | 82 => (match id with
  | 4 => [.keep [0,1,5]]
  | 1000004 => [.keep [4]]
  | _ => [])
 | 83 => (match id with
  | 4 => [.keep [0,1,5]]
  | 1000004 => [.keep [4]]
  | _ => [])
 | 84 => (match id with
  | 2 => [.keep [2,3,14,15]]
  | 8 => [.keep [2,3,32,33]]
  | 14 => [.keep [2,3,50,51]]
  | 20 => [.keep [2,3,68,69]]
  | 27 => [.keep [2,3,113,114]]
  | 1000002 => [.keep [2,3,4]]
  | 1000008 => [.keep [2,3,4]]
  | 1000014 => [.keep [2,3,4]]
  | 1000020 => [.keep [2,3,4]]
  | 1000027 => [.keep [4]]
  | _ => [])
 | 86 => (match id with
  | 0 => [.frz 0]
  | 3 => [.keep [0,3,9,10,11]]
  | 11 => [.keep [6,25,26,27]]
  | 1000003 => [.keep [0,3]]
  | 1000011 => [.keep [6]]
  | _ => [])
 | 88 => (match id with
  | 2000061 => [.keep [1,2,60,61]]
  | 2000087 => [.keep [1,2,60,87]]
  | 2000094 => [.keep [1,2,60,94]]
  | 2000102 => [.keep [1,2,60,102]]
  | 2000109 => [.keep [1,2,60,109]]
  | _ => [])
 | 89 => (match id with
  | 2000010 => [.keep [0,9,10]]
  | _ => [])
 | 90 => (match id with
  | 2000022 => [.keep [0,22]]
  | _ => [])
 | 91 => (match id with
  | 2000015 => [.keep [0,6,15]]
  | 2000046 => [.keep [0,46]]
  | _ => [])
 | 93 => (match id with
  | 2000006 => [.keep [0,6]]
  | 2000011 => [.keep [0,11]]
  | 2000016 => [.keep [0,16]]
  | 2000023 => [.keep [0,23]]
  | _ => [])
 | 95 => (match id with
  | 3000014 => [.stop 6,.frz 76]
  | 5000004 => [.cls 6]
  | 5000020 => [.cls 130]
  | 5000024 => [.cls 168]
  | 5000030 => [.cls 8]
  | _ => [])
 | 103 => (match id with
  | 3 => [.keep [3,8,9,10]]
  | 9 => [.keep [3,8,9,10]]
  | 1000003 => [.keep [2]]
  | _ => [])
 | 114 => (match id with
  | 4 => [.keep [1,3]]
  | _ => [])
 | 115 => (match id with
  | 2 => [.keep [1,16,17,18]]
  | 8 => [.keep [1,34,35,36]]
  | 14 => [.keep [1,58,59,60]]
  | 19 => [.keep [1,58,59,60,81,82,83]]
  | 26 => [.keep [1,93,94,95]]
  | 32 => [.keep [116,117,118]]
  | 36 => [.keep [116,117,118]]
  | 1000002 => [.keep [1,2]]
  | 1000008 => [.keep [1,2]]
  | 1000014 => [.keep [1,2]]
  | 1000019 => [.keep [1,2,58,59,60]]
  | 1000026 => [.keep [1,2]]
  | 1000032 => [.keep [2]]
  | _ => [])
 | 116 => (match id with
  | 2 => [.keep [1,11,12,13]]
  | 6 => [.keep [1,3,4,11,12,13]]
  | 7 => [.keep [1,3,4,5,11,12,13]]
  | 13 => [.keep [1,59,60,61]]
  | 17 => [.keep [1,59,60,61]]
  | 19 => [.keep [102,103,104]]
  | 1000002 => [.keep [1,2]]
  | 1000007 => [.keep [1,2,11,12,13]]
  | 1000013 => [.keep [1,2]]
  | 1000019 => [.keep [2]]
  | _ => [])
 | 171 => (match id with
  | 2000043 => [.keep [0,1,18,43]]
  | 2000171 => [.keep [0,1,18,171]]
  | 2000182 => [.keep [0,1,18,182]]
  | _ => [])
 | 172 => (match id with
  | 4 => [.keep [0,1,7]]
  | 1000004 => [.keep [6]]
  | _ => [])
 | 173 => (match id with
  | 3 => [.keep [0,1,4]]
  | 11 => [.keep [0,1,6]]
  | 16 => [.keep [0,1]]
  | 1000003 => [.keep [0,1]]
  | 1000011 => [.keep [0,1]]
  | _ => [])
 | 174 => (match id with
  | 4 => [.keep [1,2,15,16,17]]
  | 1000004 => [.keep [6]]
  | _ => [])
 | 177 => (match id with
  | 2000007 => [.keep [6,7]]
  | 2000010 => [.keep [6,10]]
  | 2000013 => [.keep [6,13]]
  | 2000018 => [.keep [6,18]]
  | 2000023 => [.keep [6,23]]
  | 2000028 => [.keep [6,28]]
  | 2000033 => [.keep [6,33]]
  | 2000038 => [.keep [6,38]]
  | _ => [])
 | 183 => (match id with
  | 2000004 => [.keep [0,3,4]]
  | _ => [])
 | 184 => (match id with
  | 26 => [.keep [0,5,6,7]]
  | 2000008 => [.keep [0,5,6,7,8]]
  | 2000024 => [.keep [0,5,6,7,24]]
  | 2000043 => [.keep [0,5,6,7,43]]
  | 2000055 => [.keep [0,5,6,7,55]]
  | 2000067 => [.keep [0,5,6,7,67]]
  | 2000086 => [.keep [0,5,6,7,86]]
  | 2000098 => [.keep [0,5,6,7,98]]
  | 2000117 => [.keep [0,5,6,7,117]]
  | 2000129 => [.keep [0,5,6,7,129]]
  | 2000159 => [.keep [5,6,7,152,159]]
  | 2000166 => [.keep [5,6,7,152,166]]
  | 2000175 => [.keep [5,6,7,152,175]]
  | 2000185 => [.keep [5,6,7,152,185]]
  | _ => [])
 | 185 => (match id with
  | 28 => [.keep [0,5]]
  | 42 => [.keep [0,5,6]]
  | 2000008 => [.keep [0,5,7,8]]
  | 2000015 => [.keep [0,5,7,15]]
  | 2000022 => [.keep [0,5,7,22]]
  | 2000028 => [.keep [0,5,7,28]]
  | 2000034 => [.keep [0,5,6,33,34]]
  | 2000043 => [.keep [0,5,6,33,43]]
  | _ => [])
 | 188 => (match id with
  | 3000008 => [.trim 4]
  | _ => [])
 | 207 => (match id with
  | 2 => [.keep [0,1,5]]
  | 1000002 => [.keep [0,1,4]]
  | _ => [])
 | 254 => (match id with
  | 3 => [.own 1 1,.keep [1,2]]
  | 4 => [.own 1 1,.keep [1,2]]
  | 1000003 => [.keep [1]]
  | _ => [])
 | 255 => (match id with
  | 2 => [.mvC 0 12,.mvC 0 14,.keep [0,1,6]]
  | 1000002 => [.keep [0]]
  | _ => [])
 | 258 => (match id with
  | 15 => [.keep [0,4,5,6]]
  | 16 => [.keep [0]]
  | 3000011 => [.trimC 0 12]
  | 3000016 => [.trimC 0 12]
  | _ => [])
 | 259 => (match id with
  | 8 => [.keep [0,4,5,7]]
  | 13 => [.keep [0,5,7,8,9]]
  | 16 => [.keep [0,5,7,8]]
  | 21 => [.keep [0,5,8]]
  | 3000021 => [.trimC 0 13]
  | _ => [])
 | 261 => (match id with
  | 16 => [.own 8 1,.keep [0,1,6,7,8,9]]
  | 17 => [.own 8 1,.keep [0,1,6,7,8,9]]
  | 27 => [.keep [0,1,10]]
  | 37 => [.mvC 0 12,.keep [0,1]]
  | 1000016 => [.keep [0,1,6,8]]
  | 1000027 => [.keep [0,4]]
  | 2000028 => [.keep [0,1,18,28]]
  | 3000021 => [.stop 5,.frz 132]
  | _ => [])
 | 262 => (match id with
  | 3000005 => [.trimC 0 12]
  | _ => [])
 | 263 => (match id with
  | 3 => [.keep [0,1,4]]
  | 10 => [.keep [0,1,4,5]]
  | _ => [])
 | 264 => (match id with
  | 2 => [.keep [0,1,7,8]]
  | 1000002 => [.keep [4]]
  | _ => [])
 | 268 => (match id with
  | 2 => [.keep [0,1,7,8]]
  | 1000002 => [.keep [4]]
  | _ => [])
 | 269 => (match id with
  | 2 => [.keep [0,1,7,8]]
  | 1000002 => [.keep [4]]
  | _ => [])
 | 270 => (match id with
  | 2 => [.keep [0,3]]
  | 1000002 => [.keep [2,3]]
  | _ => [])
 | 271 => (match id with
  | 2 => [.keep [0,1,7,8]]
  | 1000002 => [.keep [4]]
  | _ => [])
 | 272 => (match id with
  | 2 => [.keep [0,1,7,8]]
  | 1000002 => [.keep [4]]
  | _ => [])
 | 273 => (match id with
  | 2 => [.keep [0,1,7,8]]
  | 1000002 => [.keep [4]]
  | _ => [])
 | 274 => (match id with
  | 2 => [.keep [0,1,7,8]]
  | 1000002 => [.keep [4]]
  | _ => [])
 | 275 => (match id with
  | 2 => [.keep [0,1,7,8]]
  | 1000002 => [.keep [4]]
  | _ => [])
 | 276 => (match id with
  | 2 => [.keep [0,1,7,8]]
  | 1000002 => [.keep [4]]
  | _ => [])
 | 277 => (match id with
  | 3 => [.keep [0,3,4]]
  | 14 => [.keep [0,3,4,5,6,7]]
  | 17 => [.keep [0,3,4,5,6,7,8]]
  | 24 => [.keep [0,3,4,5]]
  | 1000003 => [.keep [2,3]]
  | 1000017 => [.keep [0,2,3,4,5,6,7]]
  | 2000023 => [.keep [0,3,4,7,23]]
  | 2000032 => [.keep [0,3,4,7,32]]
  | _ => [])
 | 314 => (match id with
  | 4 => [.keep [0,1,5]]
  | 1000004 => [.keep [4]]
  | _ => [])
 | 315 => (match id with
  | 3000000 => [.stop 10,.trimC 0 12]
  | _ => [])
 | 316 => (match id with
  | 2 => [.keep [0,8,9,10]]
  | 7 => [.keep [4,5,41,42,43]]
  | 16 => [.keep [0,8,9,10]]
  | 1000002 => [.keep [2]]
  | 1000007 => [.keep [2,4,5]]
  | _ => [])
 | _ => []
def fin : FuncId → List Gh := fun f => match f with
 | 20 => [.nrm 4 [some 1,some 1],.nrmP 4 [some 1,some 1]]
 | 22 => [.own 4 1,.wk 4]
 | 24 => [.frz 4,.nrm 4 [some 1,some 1]]
 | 55 => [.own 4 1]
 | 56 => [.nrm 4 [some 1,some 1],.nrmP 4 [some 1,some 1]]
 | 58 => [.mvC 0 12,.mvC 0 14]
 | 87 => [.frz 4,.nrm 4 [some 1,some 1]]
 | 171 => [.mvC 0 12,.mvC 0 14,.mvC 0 13]
 | 176 => [.own 4 1,.wk 4]
 | 184 => [.own 2 1,.own 3 1]
 | 255 => [.mvC 0 12,.mvC 0 14]
 | 257 => [.mvC 0 12,.mvC 0 14]
 | 258 => [.mvC 0 14,.mvC 0 12]
 | 259 => [.mvC 0 12,.mvC 0 13,.mvC 0 14,.drop 7]
 | 261 => [.mvC 0 12,.mvC 0 14]
 | 315 => [.mvC 0 14]
 | _ => []
def bor : FuncId → Bool := fun f => match f with
 | 17 | 18 | 21 | 23 | 26 | 27 | 28 | 30 | 31 | 68 | 69 | 70 | 71 | 72 | 73 | 74 | 75 | 76 | 77 | 78 | 79 | 80 | 81 | 82 | 83 | 84 | 96 | 97 | 98 | 99 | 103 | 104 | 105 | 106 | 107 | 108 | 110 | 112 | 113 | 114 | 115 | 116 | 172 | 174 | 175 | 180 | 190 | 193 | 195 | 197 | 198 | 199 | 206 | 207 | 264 | 270 | 273 | 277 | 314 | 316 => true
 | _ => false
def prims : FuncId → Option (List A → Heap → Option (A × Heap)) := fun f => match f with
 | 60 => some (cloneP 3 40)
 | 61 => some (cloneP 2 16)
 | 62 => some (cloneP 3 24)
 | 63 => some (cloneP 3 32)
 | 65 => some (cloneO 5 56)
 | 66 => some (cloneP 1 8)
 | 67 => some (cloneP 1 1)
 | _ => none
def cfg : Cfg := ⟨ann,fin,bor⟩
abbrev k1 : Option Blk := bp 8 [.n,.n,.n,.n,.n,.n,.n,.n]
abbrev k2 (x0 : List AType) (x1 : List AImport) (x2 : Nat) (x3 : Nat) (x4 : List AGlobal) : Option Blk := bm 8 [.l 2 AType.e x0,.l 3 AImport.e x1,.n,.slw x2 2 x3,.l 3 AGlobal.e x4,.n,.n,.n]
abbrev k3 (x0 : List AType) (x1 : List AImport) (x2 : Nat) (x3 : Nat) (x4 : Nat) (x5 : Nat) (x6 : List AGlobal) (x7 : Nat) (x8 : Nat) (x9 : List AData) : Option Blk := bm 8 [.l 2 AType.e x0,.l 3 AImport.e x1,.slw x2 3 x3,.slw x4 2 x5,.l 3 AGlobal.e x6,.slw x7 3 x8,.l 4 AData.e x9,.n]
abbrev k4 (x0 : Nat) (x1 : List AType) (x2 : List AImport) (x3 : Nat) (x4 : Nat) (x5 : Nat) (x6 : Nat) (x7 : List AGlobal) (x8 : Nat) (x9 : Nat) (x10 : List AData) (x11 : Nat) (x12 : Nat) (x13 : List Int) (x14 : List Int) (x15 : Nat) (x16 : Nat) (x17 : Nat) (x18 : Nat) (x19 : Nat) (x20 : Nat) (x21 : Int) (x22 : Bool) : Option Blk := bm 17 [.ptr x0 2 0 0,.l 2 AType.e x1,.l 3 AImport.e x2,.slw x3 3 x4,.slw x5 2 x6,.l 3 AGlobal.e x7,.slw x8 3 x9,.l 4 AData.e x10,.n,.slw x11 1 x12,.l 1 (eI .i64) x13,.l 1 (eI .i64) x14,.slw x15 1 x16,.slw x17 1 x18,.slw x19 5 x20,.i x21,.b x22]
abbrev k5 (x0 : List AType) (x1 : List AImport) (x2 : Nat) (x3 : Nat) (x4 : List AGlobal) (x5 : Nat) (x6 : Nat) (x7 : List AData) : Option Blk := bm 8 [.l 2 AType.e x0,.l 3 AImport.e x1,.n,.slw x2 2 x3,.l 3 AGlobal.e x4,.slw x5 3 x6,.l 4 AData.e x7,.n]
abbrev k6 (x0 : List AType) (x1 : List AImport) (x2 : List AFunc) (x3 : List AMem) (x4 : List AGlobal) (x5 : List AExport) (x6 : List AData) (x7 : List ACustom) : Option Blk := bp 8 [.l 2 AType.e x0,.l 3 AImport.e x1,.l 3 AFunc.e x2,.l 2 AMem.e x3,.l 3 AGlobal.e x4,.l 3 AExport.e x5,.l 4 AData.e x6,.l 2 ACustom.e x7]
abbrev u6 (m : AModule) := k6 m.Types m.Imports m.Funcs m.Mems m.Globals m.Exports m.Datas m.Customs
abbrev w6 (m : AModule) : List FV := [.l 2 AType.e m.Types,.l 3 AImport.e m.Imports,.l 3 AFunc.e m.Funcs,.l 2 AMem.e m.Mems,.l 3 AGlobal.e m.Globals,.l 3 AExport.e m.Exports,.l 4 AData.e m.Datas,.l 2 ACustom.e m.Customs]
abbrev k7 (x0 : Nat) (x1 : Nat) (x2 : List AImport) (x3 : List AMem) (x4 : List AGlobal) (x5 : List AExport) : Option Blk := bm 8 [.slw x0 2 x1,.l 3 AImport.e x2,.n,.l 2 AMem.e x3,.l 3 AGlobal.e x4,.l 3 AExport.e x5,.n,.n]
abbrev k8 (x0 : Nat) (x1 : Nat) (x2 : List AImport) (x3 : Nat) (x4 : Nat) (x5 : List AMem) (x6 : List AGlobal) (x7 : List AExport) : Option Blk := bm 8 [.slw x0 2 x1,.l 3 AImport.e x2,.slw x3 3 x4,.l 2 AMem.e x5,.l 3 AGlobal.e x6,.l 3 AExport.e x7,.n,.n]
abbrev k9 (x0 : Nat) (x1 : Nat) (x2 : List AImport) (x3 : Nat) (x4 : Nat) (x5 : List AMem) (x6 : List AGlobal) (x7 : List AExport) (x8 : Nat) (x9 : Nat) : Option Blk := bm 8 [.slw x0 2 x1,.l 3 AImport.e x2,.slw x3 3 x4,.l 2 AMem.e x5,.l 3 AGlobal.e x6,.l 3 AExport.e x7,.slw x8 4 x9,.n]
abbrev k10 (x0 : Nat) (x1 : Nat) (x2 : List AImport) (x3 : Nat) (x4 : Nat) (x5 : List AMem) (x6 : List AGlobal) (x7 : List AExport) (x8 : Nat) (x9 : Nat) (x10 : Nat) (x11 : Nat) : Option Blk := bm 8 [.slw x0 2 x1,.l 3 AImport.e x2,.slw x3 3 x4,.l 2 AMem.e x5,.l 3 AGlobal.e x6,.l 3 AExport.e x7,.slw x8 4 x9,.slw x10 2 x11]
abbrev k11 (x0 : List AType) (x1 : List AImport) (x2 : List AFunc) (x3 : List AMem) (x4 : List AGlobal) (x5 : List AExport) (x6 : List AData) (x7 : List ACustom) : Option Blk := bm 8 [.l 2 AType.e x0,.l 3 AImport.e x1,.l 3 AFunc.e x2,.l 2 AMem.e x3,.l 3 AGlobal.e x4,.l 3 AExport.e x5,.l 4 AData.e x6,.l 2 ACustom.e x7]
abbrev k12 (x0 : List AExport) : Option Blk := bp 8 [.n,.n,.n,.n,.n,.l 3 AExport.e x0,.n,.n]
abbrev sp (k : Nat) (f : FuncId) {α : Type} (io : List A × Heap) (enc : α → A × Heap) (s : Sc α) : Prop := SimP Tryz.prog cfg prims k f io enc s
abbrev op (k : Nat) (f : FuncId) {α : Type} (io : List A × Heap) (enc : α → A × Heap) (o : Option α) : Prop := OkP Tryz.prog cfg prims k f io enc o
def keep_types.f : Nat → Option (List Int × List Int × List Int × List Int × List Int × List Int × List Int)
 | 0 => none
 | k + 1 => (some (([(127 : Int)] : List Int),([(127 : Int),(127 : Int)] : List Int),([(126 : Int),(124 : Int)] : List Int),([(124 : Int)] : List Int),([(127 : Int),(126 : Int),(124 : Int)] : List Int),([(127 : Int),(126 : Int)] : List Int),([(126 : Int)] : List Int)))
section
variable (k : Nat)
noncomputable def keep_types.s : Sc (List Int × List Int × List Int × List Int × List Int × List Int × List Int) := (.ret (([(127 : Int)] : List Int),([(127 : Int),(127 : Int)] : List Int),([(126 : Int),(124 : Int)] : List Int),([(124 : Int)] : List Int),([(127 : Int),(126 : Int),(124 : Int)] : List Int),([(127 : Int),(126 : Int)] : List Int),([(126 : Int)] : List Int)))
theorem keep_types.ok : op k 53 ([],[]) (fun v8 => (.o 0 2 9,[some (.mix 2 [[.l 1 (eI .i64) ([] : List Int),.l 1 (eI .i64) ([] : List Int)],[.slw 1 1 v8.1.length,.slw 2 1 v8.1.length],[.slw 3 1 v8.q1.length,.slw 4 1 v8.q1.length],[.slw 5 1 v8.q2.length,.slw 6 1 v8.q3.length],[.l 1 (eI .i64) ([] : List Int),.slw 7 1 v8.q4.length],[.slw 8 1 v8.1.length,.slw 9 1 v8.q5.length],[.slw 10 1 v8.q3.length,.slw 11 1 v8.1.length],[.slw 12 1 v8.q5.length,.l 1 (eI .i64) ([] : List Int)],[.slw 13 1 v8.l6.length,.slw 14 1 v8.l6.length]]),bl 1 (eI .i64) v8.1,bl 1 (eI .i64) v8.1,bl 1 (eI .i64) v8.q1,bl 1 (eI .i64) v8.q1,bl 1 (eI .i64) v8.q2,bl 1 (eI .i64) v8.q3,bl 1 (eI .i64) v8.q4,bl 1 (eI .i64) v8.1,bl 1 (eI .i64) v8.q5,bl 1 (eI .i64) v8.q3,bl 1 (eI .i64) v8.1,bl 1 (eI .i64) v8.q5,bl 1 (eI .i64) v8.l6,bl 1 (eI .i64) v8.l6])) (keep_types.f k) := okP (keep_types.f ·) (fun _ => keep_types.s) rfl (fun k => by kernel_rfl) (fun k => by kernel_rfl) rfl rfl k
end
def book_Within.f : Nat → Int → Int → Int → Option (Int)
 | 0,_,_,_ => none
 | k + 1,n1,lo2,hi3 => (segB (if n1 ≥ lo2 then (if n1 ≤ hi3 then (some (.inr n1)) else (some (.inl ()))) else (some (.inl ()))) (fun _ => (if (iadd .i64 (isub .i64 hi3 lo2) 1) ≠ 0 then (if (irem .i64 n1 (iadd .i64 (isub .i64 hi3 lo2) 1)) < 0 then (let y15 : Int := (iadd .i64 (irem .i64 n1 (iadd .i64 (isub .i64 hi3 lo2) 1)) hi3); (some (iadd .i64 lo2 (iadd .i64 (isub .i64 y15 lo2) 1)))) else (let y17 : Int := (iadd .i64 lo2 (irem .i64 n1 (iadd .i64 (isub .i64 hi3 lo2) 1))); (some y17))) else none)))
section
variable (k : Nat) (n1 : Int) (lo2 : Int) (hi3 : Int)
noncomputable def book_Within.s : Sc (Int) := (.seg (O := Unit) 3 (.bq 1 3 10 false (n1 ≥ lo2) (.bq 1 7 14 false (n1 ≤ hi3) (.ret (.inr n1)) (.ret (.inl ()))) (.ret (.inl ()))) (fun v12 => ⟨mk 33 [(0,.i n1),(1,.i lo2),(2,.i hi3)],[]⟩) fun v12 => (.ck 3 5 [(iadd .i64 (isub .i64 hi3 lo2) 1) ≠ 0] (.bq 4 1 23 false ((irem .i64 n1 (iadd .i64 (isub .i64 hi3 lo2) 1)) < 0) (.nm 5 2 26 .i64 (iadd .i64 (irem .i64 n1 (iadd .i64 (isub .i64 hi3 lo2) 1)) hi3) fun v16 => (.ret (iadd .i64 lo2 (iadd .i64 (isub .i64 v16 lo2) 1)))) (.nm 6 2 32 .i64 (iadd .i64 lo2 (irem .i64 n1 (iadd .i64 (isub .i64 hi3 lo2) 1))) fun v18 => (.ret v18)))))
theorem book_Within.ok : op k 38 ([.i n1,.i lo2,.i hi3],[]) (fun v19 => (.i v19,[])) (book_Within.f k n1 lo2 hi3) := okP (book_Within.f · n1 lo2 hi3) (fun _ => book_Within.s n1 lo2 hi3) rfl (fun k => by kernel_rfl) (fun k => by kernel_rfl) rfl rfl k
end
def keep_Tape_Next.f : Nat → Int → Int → List Int → Option (Int × Int)
 | 0,_,_,_ => none
 | k + 1,n1,h2,h3 => (if h2 ≥ (h3.length : Int) then (some ((0 : Int),h2)) else (if (0 : Int) ≤ (isub .i64 (iadd .i64 h2 1) 1) ∧ (isub .i64 (iadd .i64 h2 1) 1) < (h3.length : Int) then (h3[((isub .i64 (iadd .i64 h2 1) 1)).toNat]?.bind fun e10 => ((book_Within.f k e10 (0 : Int) (1073741824 : Int)).bind fun r12 => (if n1 ≠ 0 then (some ((irem .i64 r12 n1),(iadd .i64 h2 1))) else none))) else none))
section
variable (k : Nat) (n1 : Int) (h2 : Int) (h3 : List Int)
noncomputable def keep_Tape_Next.s : Sc (Int × Int) := (.bq 1 9 14 false (h2 ≥ (h3.length : Int)) (.ret ((0 : Int),h2)) (.ck 4 9 [(0 : Int) ≤ (isub .i64 (iadd .i64 h2 1) 1),(isub .i64 (iadd .i64 h2 1) 1) < (h3.length : Int)] (.op 4 10 (Rd.ld 1 (eI .i64) h3 (((isub .i64 (iadd .i64 h2 1) 1)).toNat)) fun v11 => (.cl 4 11 (book_Within.ok k v11 (0 : Int) (1073741824 : Int)) fun v13 => (.ck 4 13 [n1 ≠ 0] (.ret ((irem .i64 v13 n1),(iadd .i64 h2 1))))))))
theorem keep_Tape_Next.ok : op k 54 ([.p 0 2 0 0,.i n1],[bm 2 [.slw 1 1 h3.length,.i h2],bl 1 (eI .i64) h3]) (fun v14 => (.i v14.1,[bm 2 [.slw 1 1 h3.length,.i v14.2],bl 1 (eI .i64) h3])) (keep_Tape_Next.f k n1 h2 h3) := okP (keep_Tape_Next.f · n1 h2 h3) (keep_Tape_Next.s · n1 h2 h3) rfl (fun k => by kernel_rfl) (fun k => by kernel_rfl) rfl rfl k
end
def ref6_Sig.f : Nat → List AType → List AImport → List AGlobal → List AData → Int → List AFunc → List AMem → List AExport → Option (AType × Bool)
 | 0,_,_,_,_,_,_,_,_ => none
 | k + 1,m1,m2,m3,m4,f5,h6,h7,h8 => (segB (segB (if f5 ≥ 0 then (some (.inl (decide (f5 < (m2.length : Int))))) else (some (.inl false))) (fun x40 => (if x40 = true then ((at? m2 f5).bind fun e42 => (some (.inl e42.fType))) else (segB (if f5 ≥ 0 then (some (.inl (decide (f5 < (iadd .i64 (m2.length : Int) (h6.length : Int)))))) else (some (.inl false))) (fun x44 => (if x44 = true then (if (0 : Int) ≤ (isub .i64 f5 (m2.length : Int)) ∧ (isub .i64 f5 (m2.length : Int)) < (h6.length : Int) then (h6[((isub .i64 f5 (m2.length : Int))).toNat]?.bind fun e46 => (some (.inl e46.fType))) else none) else (some (.inl (-1 : Int))))))))) (fun t39 => (if t39 < 0 then (some ((AType.mk ([] : List Int) ([] : List Int)),false)) else (if t39 ≥ (m1.length : Int) then (some ((AType.mk ([] : List Int) ([] : List Int)),false)) else ((at? m1 t39).bind fun e49 => (some (e49,true)))))))
section
variable (k : Nat) (m1 : List AType) (m2 : List AImport) (m3 : List AGlobal) (m4 : List AData) (f5 : Int) (h6 : List AFunc) (h7 : List AMem) (h8 : List AExport)
noncomputable def ref6_Sig.s : Sc (AType × Bool) := (.seg (O := Int) 6 (.seg (O := Bool) 20000150000002 (.bq 2 2 9 false (f5 ≥ 0) (.rS 2 6 13 (lm AImport.e m2) (.ret (.inl (decide (f5 < (m2.length : Int)))))) (.ret (.inl false))) (fun v41 => ⟨mk 60 [(1,.i f5),(2,.p 3 8 0 0),(4,.p 4 2 0 0),(6,.i (-1)),(15,.b v41)],[bl 3 AFunc.e h6,bl 2 AMem.e h7,bl 3 AExport.e h8,k3 m1 m2 0 h6.length 1 h7.length m3 2 h8.length m4,bp 2 [.n,.n]]⟩) fun v41 => (.br 2000015 900 15 v41 (.op 3 3 (Rd.el AImport.e m2 f5) fun v43 => (.ret (.inl v43.fType))) (.seg (O := Bool) 20000340000004 (.bq 4 2 24 false (f5 ≥ 0) (.rS 4 6 28 (lm AImport.e m2) (.ret (.inl (decide (f5 < (iadd .i64 (m2.length : Int) (h6.length : Int))))))) (.ret (.inl false))) (fun v45 => ⟨mk 60 [(1,.i f5),(2,.p 3 8 0 0),(4,.p 4 2 0 0),(6,.i (-1)),(34,.b v45)],[bl 3 AFunc.e h6,bl 2 AMem.e h7,bl 3 AExport.e h8,k3 m1 m2 0 h6.length 1 h7.length m3 2 h8.length m4,bp 2 [.n,.n]]⟩) fun v45 => (.br 2000034 900 34 v45 (.rS 5 5 40 (lm AImport.e m2) (.ck 5 7 [(0 : Int) ≤ (isub .i64 f5 (m2.length : Int)),(isub .i64 f5 (m2.length : Int)) < (h6.length : Int)] (.op 5 9 (Rd.ld 3 AFunc.e h6 (((isub .i64 f5 (m2.length : Int))).toNat)) fun v47 => (.ret (.inl v47.fType))))) (.ret (.inl (-1 : Int))))))) (fun v48 => ⟨mk 60 [(2,.p 3 8 0 0),(4,.p 4 2 0 0),(6,.i v48)],[bl 3 AFunc.e h6,bl 2 AMem.e h7,bl 3 AExport.e h8,k3 m1 m2 0 h6.length 1 h7.length m3 2 h8.length m4,bp 2 [.n,.n]]⟩) fun v48 => (.bq 6 2 47 false (v48 < 0) (.ret ((AType.mk ([] : List Int) ([] : List Int)),false)) (.rS 6 6 51 (lm AType.e m1) (.bq 6 8 53 false (v48 ≥ (m1.length : Int)) (.ret ((AType.mk ([] : List Int) ([] : List Int)),false)) (.op 8 3 (Rd.el AType.e m1 v48) fun v50 => (.ret (v50,true)))))))
theorem ref6_Sig.ok : op k 56 ([.agm [.l 2 AType.e m1,.l 3 AImport.e m2,.slw 0 3 h6.length,.slw 1 2 h7.length,.l 3 AGlobal.e m3,.slw 2 3 h8.length,.l 4 AData.e m4,.n],.i f5],[bl 3 AFunc.e h6,bl 2 AMem.e h7,bl 3 AExport.e h8]) (fun v51 => (.tup [.agp [.l 1 (eI .i64) v51.1.Params,.l 1 (eI .i64) v51.1.Results],.b v51.2],[bl 3 AFunc.e h6,bl 2 AMem.e h7,bl 3 AExport.e h8])) (ref6_Sig.f k m1 m2 m3 m4 f5 h6 h7 h8) := okP (ref6_Sig.f · m1 m2 m3 m4 f5 h6 h7 h8) (fun _ => ref6_Sig.s m1 m2 m3 m4 f5 h6 h7 h8) rfl (fun k => by kernel_rfl) (fun k => by kernel_rfl) rfl rfl k
end
def ref6_Locals.f : Nat → List AType → List AImport → List AGlobal → List AData → Int → List AFunc → List AMem → List AExport → Option (List Int)
 | 0,_,_,_,_,_,_,_,_ => none
 | k + 1,m1,m2,m3,m4,f5,h6,h7,h8 => ((ref6_Sig.f k m1 m2 m3 m4 f5 h6 h7 h8).bind fun (r15,r16) => (if (!r16) = true then (some ([] : List Int)) else (if f5 < (m2.length : Int) then (some ([] : List Int)) else (if (0 : Int) ≤ (isub .i64 f5 (m2.length : Int)) ∧ (isub .i64 f5 (m2.length : Int)) < (h6.length : Int) then (h6[((isub .i64 f5 (m2.length : Int))).toNat]?.bind fun e18 => (if roomP (0 + r15.Params.length) 8 then (if roomP (r15.Params.length + e18.Locals.length) 8 then (some (r15.Params ++ e18.Locals)) else none) else none)) else none))))
section
variable (k : Nat) (m1 : List AType) (m2 : List AImport) (m3 : List AGlobal) (m4 : List AData) (f5 : Int) (h6 : List AFunc) (h7 : List AMem) (h8 : List AExport)
noncomputable def ref6_Locals.s : Sc (List Int) := (.cl 1 2 (ref6_Sig.ok k m1 m2 m3 m4 f5 h6 h7 h8) fun v17 => (.br 2 2 15 (!v17.2) (.ret ([] : List Int)) (.rS 2 6 19 (lm AImport.e m2) (.bq 2 8 21 false (f5 < (m2.length : Int)) (.ret ([] : List Int)) (.rS 4 9 31 (lm AImport.e m2) (.ck 4 11 [(0 : Int) ≤ (isub .i64 f5 (m2.length : Int)),(isub .i64 f5 (m2.length : Int)) < (h6.length : Int)] (.op 4 13 (Rd.ld 3 AFunc.e h6 (((isub .i64 f5 (m2.length : Int))).toNat)) fun v19 => (.ch 4 3 (roomP (0 + v17.1.Params.length) 8) (room_app 8 ([] : List Int).length v17.1.Params (mX (eI .i64) v17.1.Params)) (.rS 4 3 25 (slw_appX 6 1 ([] : List Int) v17.1.Params (mX (eI .i64) v17.1.Params)) (.rB 4 3 6 (pur_appX 1 (eI .i64) ([] : List Int) v17.1.Params (mX (eI .i64) v17.1.Params)) (.ch 4 14 (roomP (v17.1.Params.length + v19.Locals.length) 8) (room_app 8 v17.1.Params.length v19.Locals (mX (eI .i64) v19.Locals)) (.rS 4 14 36 (slw_appX 7 1 v17.1.Params v19.Locals (mX (eI .i64) v19.Locals)) (.rB 4 14 7 (pur_appX 1 (eI .i64) v17.1.Params v19.Locals (mX (eI .i64) v19.Locals)) (.ret (v17.1.Params ++ v19.Locals)))))))))))))))
theorem ref6_Locals.ok : op k 55 ([.agm [.l 2 AType.e m1,.l 3 AImport.e m2,.slw 0 3 h6.length,.slw 1 2 h7.length,.l 3 AGlobal.e m3,.slw 2 3 h8.length,.l 4 AData.e m4,.n],.i f5],[bl 3 AFunc.e h6,bl 2 AMem.e h7,bl 3 AExport.e h8]) (fun v20 => (.o 3 1 v20.length,[bl 3 AFunc.e h6,bl 2 AMem.e h7,bl 3 AExport.e h8,bl 1 (eI .i64) v20])) (ref6_Locals.f k m1 m2 m3 m4 f5 h6 h7 h8) := okP (ref6_Locals.f · m1 m2 m3 m4 f5 h6 h7 h8) (ref6_Locals.s · m1 m2 m3 m4 f5 h6 h7 h8) rfl (fun k => by kernel_rfl) (fun k => by kernel_rfl) rfl rfl k
end
def ref1_Is.f : Nat → Int → Option (Bool)
 | 0,_ => none
 | k + 1,op1 => (if op1 ≥ 69 then (if op1 ≤ 90 then (some true) else (if op1 ≥ 103 then (if op1 ≤ 138 then (some true) else (if op1 = 167 then (some true) else (if op1 = 172 then (some true) else (if op1 = 173 then (some true) else (if op1 ≥ 192 then (some (decide (op1 ≤ 196))) else (some false)))))) else (if op1 = 167 then (some true) else (if op1 = 172 then (some true) else (if op1 = 173 then (some true) else (if op1 ≥ 192 then (some (decide (op1 ≤ 196))) else (some false))))))) else (if op1 ≥ 103 then (if op1 ≤ 138 then (some true) else (if op1 = 167 then (some true) else (if op1 = 172 then (some true) else (if op1 = 173 then (some true) else (if op1 ≥ 192 then (some (decide (op1 ≤ 196))) else (some false)))))) else (if op1 = 167 then (some true) else (if op1 = 172 then (some true) else (if op1 = 173 then (some true) else (if op1 ≥ 192 then (some (decide (op1 ≤ 196))) else (some false)))))))
section
variable (k : Nat) (op1 : Int)
noncomputable def ref1_Is.s : Sc (Bool) := (.bq 1 2 5 false (op1 ≥ 69) (.bq 1 6 9 false (op1 ≤ 90) (.ret true) (.bq 1 9 12 false (op1 ≥ 103) (.bq 1 14 17 false (op1 ≤ 138) (.ret true) (.bq 1 18 21 false (op1 = 167) (.ret true) (.bq 1 22 25 false (op1 = 172) (.ret true) (.bq 1 26 29 false (op1 = 173) (.ret true) (.bq 1 29 32 false (op1 ≥ 192) (.ret (decide (op1 ≤ 196))) (.ret false)))))) (.bq 1 18 21 false (op1 = 167) (.ret true) (.bq 1 22 25 false (op1 = 172) (.ret true) (.bq 1 26 29 false (op1 = 173) (.ret true) (.bq 1 29 32 false (op1 ≥ 192) (.ret (decide (op1 ≤ 196))) (.ret false))))))) (.bq 1 9 12 false (op1 ≥ 103) (.bq 1 14 17 false (op1 ≤ 138) (.ret true) (.bq 1 18 21 false (op1 = 167) (.ret true) (.bq 1 22 25 false (op1 = 172) (.ret true) (.bq 1 26 29 false (op1 = 173) (.ret true) (.bq 1 29 32 false (op1 ≥ 192) (.ret (decide (op1 ≤ 196))) (.ret false)))))) (.bq 1 18 21 false (op1 = 167) (.ret true) (.bq 1 22 25 false (op1 = 172) (.ret true) (.bq 1 26 29 false (op1 = 173) (.ret true) (.bq 1 29 32 false (op1 ≥ 192) (.ret (decide (op1 ≤ 196))) (.ret false)))))))
theorem ref1_Is.ok : op k 266 ([.i op1],[]) (fun v3 => (.b v3,[])) (ref1_Is.f k op1) := okP (ref1_Is.f · op1) (fun _ => ref1_Is.s op1) rfl (fun k => by kernel_rfl) (fun k => by kernel_rfl) rfl rfl k
end
def ref2_Is.f : Nat → Int → Option (Bool)
 | 0,_ => none
 | k + 1,op1 => (if op1 ≥ 97 then (if op1 ≤ 102 then (some true) else (if op1 ≥ 153 then (if op1 ≤ 166 then (some true) else (if op1 = 170 then (some true) else (if op1 = 171 then (some true) else (if op1 = 176 then (some true) else (if op1 = 177 then (some true) else (if op1 ≥ 183 then (if op1 ≤ 186 then (some true) else (if op1 = 189 then (some true) else (if op1 = 191 then (some true) else (if op1 = 64514 then (some true) else (if op1 = 64515 then (some true) else (if op1 = 64518 then (some true) else (some (decide (op1 = 64519))))))))) else (if op1 = 189 then (some true) else (if op1 = 191 then (some true) else (if op1 = 64514 then (some true) else (if op1 = 64515 then (some true) else (if op1 = 64518 then (some true) else (some (decide (op1 = 64519)))))))))))))) else (if op1 = 170 then (some true) else (if op1 = 171 then (some true) else (if op1 = 176 then (some true) else (if op1 = 177 then (some true) else (if op1 ≥ 183 then (if op1 ≤ 186 then (some true) else (if op1 = 189 then (some true) else (if op1 = 191 then (some true) else (if op1 = 64514 then (some true) else (if op1 = 64515 then (some true) else (if op1 = 64518 then (some true) else (some (decide (op1 = 64519))))))))) else (if op1 = 189 then (some true) else (if op1 = 191 then (some true) else (if op1 = 64514 then (some true) else (if op1 = 64515 then (some true) else (if op1 = 64518 then (some true) else (some (decide (op1 = 64519))))))))))))))) else (if op1 ≥ 153 then (if op1 ≤ 166 then (some true) else (if op1 = 170 then (some true) else (if op1 = 171 then (some true) else (if op1 = 176 then (some true) else (if op1 = 177 then (some true) else (if op1 ≥ 183 then (if op1 ≤ 186 then (some true) else (if op1 = 189 then (some true) else (if op1 = 191 then (some true) else (if op1 = 64514 then (some true) else (if op1 = 64515 then (some true) else (if op1 = 64518 then (some true) else (some (decide (op1 = 64519))))))))) else (if op1 = 189 then (some true) else (if op1 = 191 then (some true) else (if op1 = 64514 then (some true) else (if op1 = 64515 then (some true) else (if op1 = 64518 then (some true) else (some (decide (op1 = 64519)))))))))))))) else (if op1 = 170 then (some true) else (if op1 = 171 then (some true) else (if op1 = 176 then (some true) else (if op1 = 177 then (some true) else (if op1 ≥ 183 then (if op1 ≤ 186 then (some true) else (if op1 = 189 then (some true) else (if op1 = 191 then (some true) else (if op1 = 64514 then (some true) else (if op1 = 64515 then (some true) else (if op1 = 64518 then (some true) else (some (decide (op1 = 64519))))))))) else (if op1 = 189 then (some true) else (if op1 = 191 then (some true) else (if op1 = 64514 then (some true) else (if op1 = 64515 then (some true) else (if op1 = 64518 then (some true) else (some (decide (op1 = 64519)))))))))))))))
section
variable (k : Nat) (op1 : Int)
noncomputable def ref2_Is.s : Sc (Bool) := (.bq 1 2 5 false (op1 ≥ 97) (.bq 1 6 9 false (op1 ≤ 102) (.ret true) (.bq 1 9 12 false (op1 ≥ 153) (.bq 1 14 17 false (op1 ≤ 166) (.ret true) (.bq 1 18 21 false (op1 = 170) (.ret true) (.bq 1 22 25 false (op1 = 171) (.ret true) (.bq 1 26 29 false (op1 = 176) (.ret true) (.bq 1 30 33 false (op1 = 177) (.ret true) (.bq 1 33 36 false (op1 ≥ 183) (.bq 1 38 41 false (op1 ≤ 186) (.ret true) (.bq 1 42 45 false (op1 = 189) (.ret true) (.bq 1 46 49 false (op1 = 191) (.ret true) (.bq 1 50 53 false (op1 = 64514) (.ret true) (.bq 1 54 57 false (op1 = 64515) (.ret true) (.bq 1 58 61 false (op1 = 64518) (.ret true) (.ret (decide (op1 = 64519))))))))) (.bq 1 42 45 false (op1 = 189) (.ret true) (.bq 1 46 49 false (op1 = 191) (.ret true) (.bq 1 50 53 false (op1 = 64514) (.ret true) (.bq 1 54 57 false (op1 = 64515) (.ret true) (.bq 1 58 61 false (op1 = 64518) (.ret true) (.ret (decide (op1 = 64519)))))))))))))) (.bq 1 18 21 false (op1 = 170) (.ret true) (.bq 1 22 25 false (op1 = 171) (.ret true) (.bq 1 26 29 false (op1 = 176) (.ret true) (.bq 1 30 33 false (op1 = 177) (.ret true) (.bq 1 33 36 false (op1 ≥ 183) (.bq 1 38 41 false (op1 ≤ 186) (.ret true) (.bq 1 42 45 false (op1 = 189) (.ret true) (.bq 1 46 49 false (op1 = 191) (.ret true) (.bq 1 50 53 false (op1 = 64514) (.ret true) (.bq 1 54 57 false (op1 = 64515) (.ret true) (.bq 1 58 61 false (op1 = 64518) (.ret true) (.ret (decide (op1 = 64519))))))))) (.bq 1 42 45 false (op1 = 189) (.ret true) (.bq 1 46 49 false (op1 = 191) (.ret true) (.bq 1 50 53 false (op1 = 64514) (.ret true) (.bq 1 54 57 false (op1 = 64515) (.ret true) (.bq 1 58 61 false (op1 = 64518) (.ret true) (.ret (decide (op1 = 64519))))))))))))))) (.bq 1 9 12 false (op1 ≥ 153) (.bq 1 14 17 false (op1 ≤ 166) (.ret true) (.bq 1 18 21 false (op1 = 170) (.ret true) (.bq 1 22 25 false (op1 = 171) (.ret true) (.bq 1 26 29 false (op1 = 176) (.ret true) (.bq 1 30 33 false (op1 = 177) (.ret true) (.bq 1 33 36 false (op1 ≥ 183) (.bq 1 38 41 false (op1 ≤ 186) (.ret true) (.bq 1 42 45 false (op1 = 189) (.ret true) (.bq 1 46 49 false (op1 = 191) (.ret true) (.bq 1 50 53 false (op1 = 64514) (.ret true) (.bq 1 54 57 false (op1 = 64515) (.ret true) (.bq 1 58 61 false (op1 = 64518) (.ret true) (.ret (decide (op1 = 64519))))))))) (.bq 1 42 45 false (op1 = 189) (.ret true) (.bq 1 46 49 false (op1 = 191) (.ret true) (.bq 1 50 53 false (op1 = 64514) (.ret true) (.bq 1 54 57 false (op1 = 64515) (.ret true) (.bq 1 58 61 false (op1 = 64518) (.ret true) (.ret (decide (op1 = 64519)))))))))))))) (.bq 1 18 21 false (op1 = 170) (.ret true) (.bq 1 22 25 false (op1 = 171) (.ret true) (.bq 1 26 29 false (op1 = 176) (.ret true) (.bq 1 30 33 false (op1 = 177) (.ret true) (.bq 1 33 36 false (op1 ≥ 183) (.bq 1 38 41 false (op1 ≤ 186) (.ret true) (.bq 1 42 45 false (op1 = 189) (.ret true) (.bq 1 46 49 false (op1 = 191) (.ret true) (.bq 1 50 53 false (op1 = 64514) (.ret true) (.bq 1 54 57 false (op1 = 64515) (.ret true) (.bq 1 58 61 false (op1 = 64518) (.ret true) (.ret (decide (op1 = 64519))))))))) (.bq 1 42 45 false (op1 = 189) (.ret true) (.bq 1 46 49 false (op1 = 191) (.ret true) (.bq 1 50 53 false (op1 = 64514) (.ret true) (.bq 1 54 57 false (op1 = 64515) (.ret true) (.bq 1 58 61 false (op1 = 64518) (.ret true) (.ret (decide (op1 = 64519)))))))))))))))
theorem ref2_Is.ok : op k 267 ([.i op1],[]) (fun v3 => (.b v3,[])) (ref2_Is.f k op1) := okP (ref2_Is.f · op1) (fun _ => ref2_Is.s op1) rfl (fun k => by kernel_rfl) (fun k => by kernel_rfl) rfl rfl k
end
def ref3_Numeric.f : Nat → Int → Option (Bool × List Int × List Int)
 | 0,_ => none
 | k + 1,op1 => (segB (segB ((ref1_Is.f k op1).bind fun r121 => (if (!r121) = true then ((ref2_Is.f k op1).bind fun r123 => (some (.inl (!r123)))) else (some (.inl false)))) (fun x120 => (if x120 = true then (some (.inr (false,([] : List Int),([] : List Int)))) else (if op1 = 69 then (some (.inr (true,([(127 : Int)] : List Int),([(127 : Int)] : List Int)))) else (segB (if op1 ≥ 70 then (some (.inl (decide (op1 ≤ 79)))) else (some (.inl false))) (fun x126 => (if x126 = true then (some (.inr (true,([(127 : Int),(127 : Int)] : List Int),([(127 : Int)] : List Int)))) else (if op1 = 80 then (some (.inr (true,([(126 : Int)] : List Int),([(127 : Int)] : List Int)))) else (segB (if op1 ≥ 81 then (some (.inl (decide (op1 ≤ 90)))) else (some (.inl false))) (fun x128 => (if x128 = true then (some (.inr (true,([(126 : Int),(126 : Int)] : List Int),([(127 : Int)] : List Int)))) else (segB (if op1 ≥ 97 then (some (.inl (decide (op1 ≤ 102)))) else (some (.inl false))) (fun x130 => (if x130 = true then (some (.inr (true,([(124 : Int),(124 : Int)] : List Int),([(127 : Int)] : List Int)))) else (segB (if op1 ≥ 103 then (if op1 ≤ 105 then (some (.inl true)) else (if op1 = 192 then (some (.inl true)) else (some (.inl (decide (op1 = 193)))))) else (if op1 = 192 then (some (.inl true)) else (some (.inl (decide (op1 = 193)))))) (fun x132 => (if x132 = true then (some (.inr (true,([(127 : Int)] : List Int),([(127 : Int)] : List Int)))) else (segB (if op1 ≥ 106 then (some (.inl (decide (op1 ≤ 120)))) else (some (.inl false))) (fun x134 => (if x134 = true then (some (.inr (true,([(127 : Int),(127 : Int)] : List Int),([(127 : Int)] : List Int)))) else (segB (if op1 ≥ 121 then (if op1 ≤ 123 then (some (.inl true)) else (if op1 ≥ 194 then (some (.inl (decide (op1 ≤ 196)))) else (some (.inl false)))) else (if op1 ≥ 194 then (some (.inl (decide (op1 ≤ 196)))) else (some (.inl false)))) (fun x136 => (if x136 = true then (some (.inr (true,([(126 : Int)] : List Int),([(126 : Int)] : List Int)))) else (segB (if op1 ≥ 124 then (some (.inl (decide (op1 ≤ 138)))) else (some (.inl false))) (fun x138 => (if x138 = true then (some (.inr (true,([(126 : Int),(126 : Int)] : List Int),([(126 : Int)] : List Int)))) else (segB (if op1 ≥ 153 then (some (.inl (decide (op1 ≤ 159)))) else (some (.inl false))) (fun x140 => (if x140 = true then (some (.inr (true,([(124 : Int)] : List Int),([(124 : Int)] : List Int)))) else (if op1 ≥ 160 then (if op1 ≤ 166 then (some (.inr (true,([(124 : Int),(124 : Int)] : List Int),([(124 : Int)] : List Int)))) else (some (.inl ()))) else (some (.inl ())))))))))))))))))))))))))))))))) (fun _ => (if op1 = 167 then (some (true,([(126 : Int)] : List Int),([(127 : Int)] : List Int))) else (segB (if op1 = 172 then (some (.inl true)) else (if op1 = 173 then (some (.inl true)) else (some (.inl false)))) (fun x151 => (if x151 = true then (some (true,([(127 : Int)] : List Int),([(126 : Int)] : List Int))) else (segB (if op1 = 170 then (some (.inl true)) else (if op1 = 171 then (some (.inl true)) else (if op1 = 64514 then (some (.inl true)) else (if op1 = 64515 then (some (.inl true)) else (some (.inl false)))))) (fun x153 => (if x153 = true then (some (true,([(124 : Int)] : List Int),([(127 : Int)] : List Int))) else (segB (if op1 = 176 then (some (.inl true)) else (if op1 = 177 then (some (.inl true)) else (if op1 = 64518 then (some (.inl true)) else (if op1 = 64519 then (some (.inl true)) else (if op1 = 189 then (some (.inl true)) else (some (.inl false))))))) (fun x155 => (if x155 = true then (some (true,([(124 : Int)] : List Int),([(126 : Int)] : List Int))) else (segB (if op1 = 183 then (some (.inl true)) else (if op1 = 184 then (some (.inl true)) else (some (.inl false)))) (fun x157 => (if x157 = true then (some (true,([(127 : Int)] : List Int),([(124 : Int)] : List Int))) else (some (true,([(126 : Int)] : List Int),([(124 : Int)] : List Int))))))))))))))))))
section
variable (k : Nat) (op1 : Int)
noncomputable def ref3_Numeric.s : Sc (Bool × List Int × List Int) := (.seg (O := Unit) 26 (.seg (O := Bool) 20000080000002 (.cl 2 1 (ref1_Is.ok k op1) fun v122 => (.br 2 3 12 (!v122) (.cl 2 5 (ref2_Is.ok k op1) fun v124 => (.ret (.inl (!v124)))) (.ret (.inl false)))) (fun v125 => ⟨mk 196 [(0,.i op1),(5,.i 127),(6,.i 126),(7,.i 124),(8,.b v125)],[]⟩) fun v125 => (.br 2000008 900 8 v125 (.ret (.inr (false,([] : List Int),([] : List Int)))) (.bq 4 2 17 false (op1 = 69) (.ret (.inr (true,([(127 : Int)] : List Int),([(127 : Int)] : List Int)))) (.seg (O := Bool) 20000240000006 (.bq 6 2 27 false (op1 ≥ 70) (.ret (.inl (decide (op1 ≤ 79)))) (.ret (.inl false))) (fun v127 => ⟨mk 196 [(0,.i op1),(5,.i 127),(6,.i 126),(7,.i 124),(24,.b v127)],[]⟩) fun v127 => (.br 2000024 900 24 v127 (.ret (.inr (true,([(127 : Int),(127 : Int)] : List Int),([(127 : Int)] : List Int)))) (.bq 8 2 36 false (op1 = 80) (.ret (.inr (true,([(126 : Int)] : List Int),([(127 : Int)] : List Int)))) (.seg (O := Bool) 20000430000010 (.bq 10 2 46 false (op1 ≥ 81) (.ret (.inl (decide (op1 ≤ 90)))) (.ret (.inl false))) (fun v129 => ⟨mk 196 [(0,.i op1),(5,.i 127),(6,.i 126),(7,.i 124),(43,.b v129)],[]⟩) fun v129 => (.br 2000043 900 43 v129 (.ret (.inr (true,([(126 : Int),(126 : Int)] : List Int),([(127 : Int)] : List Int)))) (.seg (O := Bool) 20000550000012 (.bq 12 2 58 false (op1 ≥ 97) (.ret (.inl (decide (op1 ≤ 102)))) (.ret (.inl false))) (fun v131 => ⟨mk 196 [(0,.i op1),(5,.i 127),(6,.i 126),(7,.i 124),(55,.b v131)],[]⟩) fun v131 => (.br 2000055 900 55 v131 (.ret (.inr (true,([(124 : Int),(124 : Int)] : List Int),([(127 : Int)] : List Int)))) (.seg (O := Bool) 20000670000014 (.bq 14 2 70 false (op1 ≥ 103) (.bq 14 6 74 false (op1 ≤ 105) (.ret (.inl true)) (.bq 14 10 78 false (op1 = 192) (.ret (.inl true)) (.ret (.inl (decide (op1 = 193)))))) (.bq 14 10 78 false (op1 = 192) (.ret (.inl true)) (.ret (.inl (decide (op1 = 193)))))) (fun v133 => ⟨mk 196 [(0,.i op1),(5,.i 127),(6,.i 126),(7,.i 124),(67,.b v133)],[]⟩) fun v133 => (.br 2000067 900 67 v133 (.ret (.inr (true,([(127 : Int)] : List Int),([(127 : Int)] : List Int)))) (.seg (O := Bool) 20000860000016 (.bq 16 2 89 false (op1 ≥ 106) (.ret (.inl (decide (op1 ≤ 120)))) (.ret (.inl false))) (fun v135 => ⟨mk 196 [(0,.i op1),(5,.i 127),(6,.i 126),(7,.i 124),(86,.b v135)],[]⟩) fun v135 => (.br 2000086 900 86 v135 (.ret (.inr (true,([(127 : Int),(127 : Int)] : List Int),([(127 : Int)] : List Int)))) (.seg (O := Bool) 20000980000018 (.bq 18 2 101 false (op1 ≥ 121) (.bq 18 6 105 false (op1 ≤ 123) (.ret (.inl true)) (.bq 18 9 108 false (op1 ≥ 194) (.ret (.inl (decide (op1 ≤ 196)))) (.ret (.inl false)))) (.bq 18 9 108 false (op1 ≥ 194) (.ret (.inl (decide (op1 ≤ 196)))) (.ret (.inl false)))) (fun v137 => ⟨mk 196 [(0,.i op1),(5,.i 127),(6,.i 126),(7,.i 124),(98,.b v137)],[]⟩) fun v137 => (.br 2000098 900 98 v137 (.ret (.inr (true,([(126 : Int)] : List Int),([(126 : Int)] : List Int)))) (.seg (O := Bool) 20001170000020 (.bq 20 2 120 false (op1 ≥ 124) (.ret (.inl (decide (op1 ≤ 138)))) (.ret (.inl false))) (fun v139 => ⟨mk 196 [(0,.i op1),(5,.i 127),(6,.i 126),(7,.i 124),(117,.b v139)],[]⟩) fun v139 => (.br 2000117 900 117 v139 (.ret (.inr (true,([(126 : Int),(126 : Int)] : List Int),([(126 : Int)] : List Int)))) (.seg (O := Bool) 20001290000022 (.bq 22 2 132 false (op1 ≥ 153) (.ret (.inl (decide (op1 ≤ 159)))) (.ret (.inl false))) (fun v141 => ⟨mk 196 [(0,.i op1),(5,.i 127),(6,.i 126),(7,.i 124),(129,.b v141)],[]⟩) fun v141 => (.br 2000129 900 129 v141 (.ret (.inr (true,([(124 : Int)] : List Int),([(124 : Int)] : List Int)))) (.bq 24 2 143 false (op1 ≥ 160) (.bq 24 6 140 false (op1 ≤ 166) (.ret (.inr (true,([(124 : Int),(124 : Int)] : List Int),([(124 : Int)] : List Int)))) (.ret (.inl ()))) (.ret (.inl ()))))))))))))))))))))))) (fun v142 => ⟨mk 196 [(0,.i op1),(5,.i 127),(6,.i 126),(7,.i 124)],[]⟩) fun v142 => (.bq 27 1 153 false (op1 = 167) (.ret (true,([(126 : Int)] : List Int),([(127 : Int)] : List Int))) (.seg (O := Bool) 20001590000029 (.bq 29 1 159 false (op1 = 172) (.ret (.inl true)) (.bq 30 1 159 false (op1 = 173) (.ret (.inl true)) (.ret (.inl false)))) (fun v152 => ⟨mk 196 [(5,.i 127),(6,.i 126),(7,.i 124),(152,.i op1),(159,.b v152)],[]⟩) fun v152 => (.br 2000159 900 159 v152 (.ret (true,([(127 : Int)] : List Int),([(126 : Int)] : List Int))) (.seg (O := Bool) 20001660000032 (.bq 32 1 166 false (op1 = 170) (.ret (.inl true)) (.bq 33 1 166 false (op1 = 171) (.ret (.inl true)) (.bq 34 1 166 false (op1 = 64514) (.ret (.inl true)) (.bq 35 1 166 false (op1 = 64515) (.ret (.inl true)) (.ret (.inl false)))))) (fun v154 => ⟨mk 196 [(5,.i 127),(6,.i 126),(7,.i 124),(152,.i op1),(166,.b v154)],[]⟩) fun v154 => (.br 2000166 900 166 v154 (.ret (true,([(124 : Int)] : List Int),([(127 : Int)] : List Int))) (.seg (O := Bool) 20001750000037 (.bq 37 1 175 false (op1 = 176) (.ret (.inl true)) (.bq 38 1 175 false (op1 = 177) (.ret (.inl true)) (.bq 39 1 175 false (op1 = 64518) (.ret (.inl true)) (.bq 40 1 175 false (op1 = 64519) (.ret (.inl true)) (.bq 41 1 175 false (op1 = 189) (.ret (.inl true)) (.ret (.inl false))))))) (fun v156 => ⟨mk 196 [(5,.i 127),(6,.i 126),(7,.i 124),(152,.i op1),(175,.b v156)],[]⟩) fun v156 => (.br 2000175 900 175 v156 (.ret (true,([(124 : Int)] : List Int),([(126 : Int)] : List Int))) (.seg (O := Bool) 20001850000043 (.bq 43 1 185 false (op1 = 183) (.ret (.inl true)) (.bq 44 1 185 false (op1 = 184) (.ret (.inl true)) (.ret (.inl false)))) (fun v158 => ⟨mk 196 [(5,.i 127),(6,.i 126),(7,.i 124),(152,.i op1),(185,.b v158)],[]⟩) fun v158 => (.br 2000185 900 185 v158 (.ret (true,([(127 : Int)] : List Int),([(124 : Int)] : List Int))) (.ret (true,([(126 : Int)] : List Int),([(124 : Int)] : List Int)))))))))))))
theorem ref3_Numeric.ok : op k 184 ([.i op1],[]) (fun v159 => (.tup [.o 0 1 v159.q1.length,.o 1 1 v159.l2.length,.b v159.1],[bl 1 (eI .i64) v159.q1,bl 1 (eI .i64) v159.l2])) (ref3_Numeric.f k op1) := okP (ref3_Numeric.f · op1) (ref3_Numeric.s · op1) rfl (fun k => by kernel_rfl) (fun k => by kernel_rfl) rfl rfl k
end
def keep_ops.b3 (k : Nat) : (Int × List Int) → Option ((Int × List Int) ⊕ (List Int)) := fun (op47,h48) => (if op47 ≤ 196 then (segB ((ref3_Numeric.f k op47).bind fun (r66,r67,r68) => (if r66 = true then (if roomP (h48.length + 1) 8 then (some (.inl (h48 ++ ([op47] : List Int)))) else none) else (some (.inl h48)))) (fun h65 => (some (.inl ((iadd .i64 op47 1),h65))))) else (some (.inr h48)))
def keep_ops.f : Nat → Option (List Int)
 | 0 => none
 | k + 1 => ((loopS (keep_ops.b3 k) k ((69 : Int),([] : List Int))).bind fun h59 => (if roomP (h59.length + 11) 8 then (some (h59 ++ ([(64514 : Int),(64515 : Int),(64518 : Int),(64519 : Int),(192 : Int),(193 : Int),(194 : Int),(195 : Int),(196 : Int),(64514 : Int),(64518 : Int)] : List Int))) else none))
section
variable (k : Nat)
noncomputable def keep_ops.s : Sc (List Int) := (.loop (V := Int × List Int) (O := List Int) 3 ((69 : Int),([] : List Int)) (fun v60 => ⟨mk 24 [(1,.o 0 1 v60.2.length),(2,.i v60.1)],[bl 1 (eI .i64) v60.2]⟩) (fun v60 => (.bq 3 1 7 false (v60.1 ≤ 196) (.seg (O := List Int) 4 (.cl 5 1 (ref3_Numeric.ok k v60.1) fun v69 => (.br 6 0 16 v69.1 (.ch 7 3 (roomP (v60.2.length + 1) 8) (room_app 8 v60.2.length ([v60.1] : List Int) (mX (eI .i64) ([v60.1] : List Int))) (.rS 7 3 20 (slw_appX 4 1 v60.2 ([v60.1] : List Int) (mX (eI .i64) ([v60.1] : List Int))) (.rB 7 3 4 (pur_appX 1 (eI .i64) v60.2 ([v60.1] : List Int) (mX (eI .i64) ([v60.1] : List Int))) (.ret (.inl (v60.2 ++ ([v60.1] : List Int))))))) (.ret (.inl v60.2)))) (fun v70 => ⟨mk 24 [(1,.o 0 1 v70.length),(2,.i v60.1)],[bl 1 (eI .i64) v70]⟩) fun v70 => (.ret (.inl ((iadd .i64 v60.1 1),v70)))) (.ret (.inr v60.2)))) (.exit 0) (fun v71 => ⟨mk 24 [(1,.o 0 1 v71.length)],[bl 1 (eI .i64) v71]⟩) fun v71 => (.ch 8 2 (roomP (v71.length + 11) 8) (room_app 8 v71.length ([(64514 : Int),(64515 : Int),(64518 : Int),(64519 : Int),(192 : Int),(193 : Int),(194 : Int),(195 : Int),(196 : Int),(64514 : Int),(64518 : Int)] : List Int) (mX (eI .i64) ([(64514 : Int),(64515 : Int),(64518 : Int),(64519 : Int),(192 : Int),(193 : Int),(194 : Int),(195 : Int),(196 : Int),(64514 : Int),(64518 : Int)] : List Int))) (.rS 8 2 23 (slw_appX 2 1 v71 ([(64514 : Int),(64515 : Int),(64518 : Int),(64519 : Int),(192 : Int),(193 : Int),(194 : Int),(195 : Int),(196 : Int),(64514 : Int),(64518 : Int)] : List Int) (mX (eI .i64) ([(64514 : Int),(64515 : Int),(64518 : Int),(64519 : Int),(192 : Int),(193 : Int),(194 : Int),(195 : Int),(196 : Int),(64514 : Int),(64518 : Int)] : List Int))) (.rB 8 2 2 (pur_appX 1 (eI .i64) v71 ([(64514 : Int),(64515 : Int),(64518 : Int),(64519 : Int),(192 : Int),(193 : Int),(194 : Int),(195 : Int),(196 : Int),(64514 : Int),(64518 : Int)] : List Int) (mX (eI .i64) ([(64514 : Int),(64515 : Int),(64518 : Int),(64519 : Int),(192 : Int),(193 : Int),(194 : Int),(195 : Int),(196 : Int),(64514 : Int),(64518 : Int)] : List Int))) (.ret (v71 ++ ([(64514 : Int),(64515 : Int),(64518 : Int),(64519 : Int),(192 : Int),(193 : Int),(194 : Int),(195 : Int),(196 : Int),(64514 : Int),(64518 : Int)] : List Int)))))))
theorem keep_ops.ok : op k 254 ([],[]) (fun v72 => (.o 0 1 v72.length,[bl 1 (eI .i64) v72])) (keep_ops.f k) := okP (keep_ops.f ·) (keep_ops.s ·) rfl (fun k => by kernel_rfl) (fun k => by kernel_rfl) rfl rfl k
end
def kg_top.b4 (k : Nat) (g13 : List Int) (l18 : List Int) : Int → Option (Int ⊕ (Unit ⊕ Unit)) := fun i65 => (if i65 < (l18.length : Int) then (let y85 : Int := (iadd .i64 (isub .i64 (g13.length : Int) (l18.length : Int)) i65); ((at? g13 y85).bind fun e87 => ((at? l18 i65).bind fun e89 => (if e87 = e89 then (some (.inl (iadd .i64 i65 1))) else (some (.inr (.inr ()))))))) else (some (.inr (.inl ()))))
def kg_top.f : Nat → List Int → Int → List AType → List AImport → List AFunc → List AMem → List AGlobal → List AExport → List AData → List Int → List Int → List Int → List Int → List (List Int) → List AInst → Int → Bool → List Int → Int → Option (Bool)
 | 0,_,_,_,_,_,_,_,_,_,_,_,_,_,_,_,_,_,_,_ => none
 | k + 1,g1,g2,g3,g4,g5,g6,g7,g8,g9,g10,g11,g12,g13,g14,g15,g16,g17,l18,height19 => (if (isub .i64 (g13.length : Int) height19) < (l18.length : Int) then (some false) else (altB (loopS (kg_top.b4 k g13 l18) k (0 : Int)) (fun _ => (some true)) (fun _ => (some false))))
section
variable (k : Nat) (g1 : List Int) (g2 : Int) (g3 : List AType) (g4 : List AImport) (g5 : List AFunc) (g6 : List AMem) (g7 : List AGlobal) (g8 : List AExport) (g9 : List AData) (g10 : List Int) (g11 : List Int) (g12 : List Int) (g13 : List Int) (g14 : List (List Int)) (g15 : List AInst) (g16 : Int) (g17 : Bool) (l18 : List Int) (height19 : Int)
noncomputable def kg_top.s : Sc (Bool) := (.rS 1 4 12 (lm (eI .i64) g13) (.rS 1 8 16 (lm (eI .i64) l18) (.bq 1 9 17 false ((isub .i64 (g13.length : Int) height19) < (l18.length : Int)) (.ret false) (.loop2 (V := Int) (O := Unit) (O2 := Unit) 4 (0 : Int) (fun v78 => ⟨mk 45 [(0,.c (.v (.ref [.ref [.l 1 (eI .i64) g1,.i g2],.l 2 AType.e g3,.l 3 AImport.e g4,.l 3 AFunc.e g5,.l 2 AMem.e g6,.l 3 AGlobal.e g7,.l 3 AExport.e g8,.l 4 AData.e g9,.n,.l 1 (eI .i64) g10,.l 1 (eI .i64) g11,.l 1 (eI .i64) g12,.l 1 (eI .i64) g13,.l 1 (eL 1 (eI .i64)) g14,.l 5 AInst.e g15,.i g16,.bool g17]))),(1,.l 1 (eI .i64) l18),(7,.i v78)],[]⟩) (fun v78 => (.rS 4 2 20 (lm (eI .i64) l18) (.bq 4 3 21 false (v78 < (l18.length : Int)) (.rS 6 8 32 (lm (eI .i64) g13) (.rS 6 10 34 (lm (eI .i64) l18) (.nm 6 13 37 .i64 (iadd .i64 (isub .i64 (g13.length : Int) (l18.length : Int)) v78) fun v86 => (.op 6 14 (Rd.el (eI .i64) g13 v86) fun v88 => (.op 6 18 (Rd.el (eI .i64) l18 v78) fun v90 => (.bq 6 20 44 true (v88 = v90) (.ret (.inl (iadd .i64 v78 1))) (.ret (.inr (.inr ()))))))))) (.ret (.inr (.inl ())))))) (.exit 0) (fun v91 => ⟨mk 45 [],[]⟩) (fun v91 => (.ret true)) .ret (fun v92 => ⟨mk 45 [(6,.b false)],[]⟩) fun v92 => (.ret false)))))
theorem kg_top.ok : op k 172 ([.c (.v (.ref [.ref [.l 1 (eI .i64) g1,.i g2],.l 2 AType.e g3,.l 3 AImport.e g4,.l 3 AFunc.e g5,.l 2 AMem.e g6,.l 3 AGlobal.e g7,.l 3 AExport.e g8,.l 4 AData.e g9,.n,.l 1 (eI .i64) g10,.l 1 (eI .i64) g11,.l 1 (eI .i64) g12,.l 1 (eI .i64) g13,.l 1 (eL 1 (eI .i64)) g14,.l 5 AInst.e g15,.i g16,.bool g17])),.l 1 (eI .i64) l18,.i height19],[]) (fun v93 => (.b v93,[])) (kg_top.f k g1 g2 g3 g4 g5 g6 g7 g8 g9 g10 g11 g12 g13 g14 g15 g16 g17 l18 height19) := okB (kg_top.f · g1 g2 g3 g4 g5 g6 g7 g8 g9 g10 g11 g12 g13 g14 g15 g16 g17 l18 height19) (fun _ => kg_top.s g1 g2 g3 g4 g5 g6 g7 g8 g9 g10 g11 g12 g13 g14 g15 g16 g17 l18 height19) rfl (fun k => by kernel_rfl) (fun k => by kernel_rfl) rfl rfl rfl (by kernel_rfl) (fun _ => ⟨rfl,rfl⟩) k
end
def kg_put.f : Nat → Int → Int → Int → Int → List AType → List AImport → List AGlobal → List AData → List Int → List Int → Int → Bool → Int → List AFunc → List AMem → List AExport → List Int → List Int → List (List Int) → List AInst → List Int → Option (List AInst)
 | 0,_,_,_,_,_,_,_,_,_,_,_,_,_,_,_,_,_,_,_,_,_ => none
 | k + 1,i1,i2,i3,i4,h5,h6,h7,h8,h9,h10,h11,h12,h13,h14,h15,h16,h17,h18,h19,h20,h21 => (if roomP (h20.length + 1) 56 then (some (h20 ++ ([(AInst.mk i1 i2 i3 i4 ([] : List Int))] : List AInst))) else none)
section
variable (k : Nat) (i1 : Int) (i2 : Int) (i3 : Int) (i4 : Int) (h5 : List AType) (h6 : List AImport) (h7 : List AGlobal) (h8 : List AData) (h9 : List Int) (h10 : List Int) (h11 : Int) (h12 : Bool) (h13 : Int) (h14 : List AFunc) (h15 : List AMem) (h16 : List AExport) (h17 : List Int) (h18 : List Int) (h19 : List (List Int)) (h20 : List AInst) (h21 : List Int)
noncomputable def kg_put.s : Sc (List AInst) := (.ch 1 7 (roomP (h20.length + 1) 56) (room_app 56 h20.length ([(AInst.mk i1 i2 i3 i4 ([] : List Int))] : List AInst) (mX AInst.e ([(AInst.mk i1 i2 i3 i4 ([] : List Int))] : List AInst))) (.rS 1 7 11 (slw_appX 12 5 h20 ([(AInst.mk i1 i2 i3 i4 ([] : List Int))] : List AInst) (mX AInst.e ([(AInst.mk i1 i2 i3 i4 ([] : List Int))] : List AInst))) (.rB 1 7 12 (pur_appX 5 AInst.e h20 ([(AInst.mk i1 i2 i3 i4 ([] : List Int))] : List AInst) (mX AInst.e ([(AInst.mk i1 i2 i3 i4 ([] : List Int))] : List AInst))) (.ret (h20 ++ ([(AInst.mk i1 i2 i3 i4 ([] : List Int))] : List AInst))))))
theorem kg_put.ok : op k 59 ([.p 0 17 0 0,.agp [.i i1,.i i2,.i i3,.int .u64 i4,.n]],[k4 1 h5 h6 2 h14.length 3 h15.length h7 4 h16.length h8 5 h17.length h9 h10 6 h18.length 7 h19.length 8 h20.length h11 h12,bm 2 [.slw 9 1 h21.length,.i h13],bl 3 AFunc.e h14,bl 2 AMem.e h15,bl 3 AExport.e h16,bl 1 (eI .i64) h17,bl 1 (eI .i64) h18,bl 1 (eL 1 (eI .i64)) h19,bl 5 AInst.e h20,bl 1 (eI .i64) h21]) (fun v23 => (.tup [],[k4 1 h5 h6 2 h14.length 3 h15.length h7 4 h16.length h8 5 h17.length h9 h10 6 h18.length 7 h19.length 10 v23.length h11 h12,bm 2 [.slw 9 1 h21.length,.i h13],bl 3 AFunc.e h14,bl 2 AMem.e h15,bl 3 AExport.e h16,bl 1 (eI .i64) h17,bl 1 (eI .i64) h18,bl 1 (eL 1 (eI .i64)) h19,none,bl 1 (eI .i64) h21,bl 5 AInst.e v23])) (kg_put.f k i1 i2 i3 i4 h5 h6 h7 h8 h9 h10 h11 h12 h13 h14 h15 h16 h17 h18 h19 h20 h21) := okP (kg_put.f · i1 i2 i3 i4 h5 h6 h7 h8 h9 h10 h11 h12 h13 h14 h15 h16 h17 h18 h19 h20 h21) (fun _ => kg_put.s i1 i2 i3 i4 h20) rfl (fun k => by kernel_rfl) (fun k => by kernel_rfl) rfl rfl k
end
def kg_constant.f : Nat → Int → List AType → List AImport → List AGlobal → List AData → List Int → List Int → Int → Bool → Int → List AFunc → List AMem → List AExport → List Int → List Int → List (List Int) → List AInst → List Int → Option (Int × List Int × List AInst)
 | 0,_,_,_,_,_,_,_,_,_,_,_,_,_,_,_,_,_,_ => none
 | k + 1,t1,h2,h3,h4,h5,h6,h7,h8,h9,h10,h11,h12,h13,h14,h15,h16,h17,h18 => ((keep_Tape_Next.f k (40 : Int) h10 h18).bind fun (r49,r50) => (segB ((keep_Tape_Next.f k (4 : Int) r50 h18).bind fun (r62,r63) => (if r62 = 0 then ((keep_Tape_Next.f k (12 : Int) r63 h18).bind fun (r65,r66) => (if (0 : Int) ≤ r65 ∧ r65 < (12 : Int) then (([(18446744073709551615 : Int),(9223372036854775808 : Int),(2147483647 : Int),(2147483648 : Int),(9218868437227405312 : Int),(9221120237041090560 : Int),(18442240474082181120 : Int),(4609434218613702656 : Int),(4746794007246405632 : Int),(13970166044103278592 : Int),(9223372036854775808 : Int),(4890909195324358656 : Int)] : List Int)[(r65).toNat]?.bind fun e68 => (some (.inl (e68,r66)))) else none)) else (some (.inl ((icv .u64 r49),r63))))) (fun (v60,h61) => (segB (if t1 = 127 then (some (.inl ((iand .u64 v60 4294967295),(65 : Int)))) else (if t1 = 124 then (if v60 < 40 then (some (.inl ((iadd .u64 4607182418800017408 (ishl .u64 v60 50)),(68 : Int)))) else (some (.inl (v60,(68 : Int))))) else (some (.inl (v60,(66 : Int)))))) (fun (v71,op72) => ((kg_put.f k op72 (0 : Int) (0 : Int) v71 h2 h3 h4 h5 h6 h7 h8 h9 h61 h11 h12 h13 h14 h15 h16 h17 h18).bind fun r74 => (if roomP (h15.length + 1) 8 then (some (h61,(h15 ++ ([t1] : List Int)),r74)) else none)))))))
section
variable (k : Nat) (t1 : Int) (h2 : List AType) (h3 : List AImport) (h4 : List AGlobal) (h5 : List AData) (h6 : List Int) (h7 : List Int) (h8 : Int) (h9 : Bool) (h10 : Int) (h11 : List AFunc) (h12 : List AMem) (h13 : List AExport) (h14 : List Int) (h15 : List Int) (h16 : List (List Int)) (h17 : List AInst) (h18 : List Int)
noncomputable def kg_constant.s : Sc (Int × List Int × List AInst) := (.cl 0 4 (keep_Tape_Next.ok k (40 : Int) h10 h18) fun v51 => (.seg (O := Int × Int) 3 (.cl 1 4 (keep_Tape_Next.ok k (4 : Int) v51.2 h18) fun v64 => (.bq 1 5 17 false (v64.1 = 0) (.cl 2 5 (keep_Tape_Next.ok k (12 : Int) v64.2 h18) fun v67 => (.ck 2 6 [(0 : Int) ≤ v67.1,v67.1 < (12 : Int)] (.op 2 7 (Rd.ld 1 (eI .u64) ([(18446744073709551615 : Int),(9223372036854775808 : Int),(2147483647 : Int),(2147483648 : Int),(9218868437227405312 : Int),(9221120237041090560 : Int),(18442240474082181120 : Int),(4609434218613702656 : Int),(4746794007246405632 : Int),(13970166044103278592 : Int),(9223372036854775808 : Int),(4890909195324358656 : Int)] : List Int) ((v67.1).toNat)) fun v69 => (.ret (.inl (v69,v67.2)))))) (.ret (.inl ((icv .u64 v51.1),v64.2))))) (fun v70 => ⟨mk 52 [(0,.p 0 17 0 0),(1,.i t1),(4,.c (.v (.int .u64 v70.1)))],[k4 1 h2 h3 2 h11.length 3 h12.length h4 4 h13.length h5 5 h14.length h6 h7 6 h15.length 7 h16.length 8 h17.length h8 h9,bm 2 [.slw 9 1 h18.length,.i v70.2],bl 3 AFunc.e h11,bl 2 AMem.e h12,bl 3 AExport.e h13,bl 1 (eI .i64) h14,bl 1 (eI .i64) h15,bl 1 (eL 1 (eI .i64)) h16,bl 5 AInst.e h17,bl 1 (eI .i64) h18]⟩) fun v70 => (.seg (O := Int × Int) 10 (.bq 4 1 27 false (t1 = 127) (.ret (.inl ((iand .u64 v70.1 4294967295),(65 : Int)))) (.bq 6 1 31 false (t1 = 124) (.bq 8 1 33 false (v70.1 < 40) (.prf 9 1 [(0 : Int) ≤ 50] ⟨by decide,trivial⟩ (.ret (.inl ((iadd .u64 4607182418800017408 (ishl .u64 v70.1 50)),(68 : Int))))) (.ret (.inl (v70.1,(68 : Int))))) (.ret (.inl (v70.1,(66 : Int)))))) (fun v73 => ⟨mk 52 [(0,.p 0 17 0 0),(1,.i t1),(4,.c (.v (.int .u64 v73.1))),(5,.i v73.2)],[k4 1 h2 h3 2 h11.length 3 h12.length h4 4 h13.length h5 5 h14.length h6 h7 6 h15.length 7 h16.length 8 h17.length h8 h9,bm 2 [.slw 9 1 h18.length,.i v70.2],bl 3 AFunc.e h11,bl 2 AMem.e h12,bl 3 AExport.e h13,bl 1 (eI .i64) h14,bl 1 (eI .i64) h15,bl 1 (eL 1 (eI .i64)) h16,bl 5 AInst.e h17,bl 1 (eI .i64) h18]⟩) fun v73 => (.cl 10 4 (kg_put.ok k v73.2 (0 : Int) (0 : Int) v73.1 h2 h3 h4 h5 h6 h7 h8 h9 v70.2 h11 h12 h13 h14 h15 h16 h17 h18) fun v75 => (.ch 11 7 (roomP (h15.length + 1) 8) (room_app 8 h15.length ([t1] : List Int) (mX (eI .i64) ([t1] : List Int))) (.rS 11 7 49 (slw_appX 12 1 h15 ([t1] : List Int) (mX (eI .i64) ([t1] : List Int))) (.rB 11 7 12 (pur_appX 1 (eI .i64) h15 ([t1] : List Int) (mX (eI .i64) ([t1] : List Int))) (.ret (v70.2,(h15 ++ ([t1] : List Int)),v75)))))))))
theorem kg_constant.ok : op k 263 ([.p 0 17 0 0,.i t1],[k4 1 h2 h3 2 h11.length 3 h12.length h4 4 h13.length h5 5 h14.length h6 h7 6 h15.length 7 h16.length 8 h17.length h8 h9,bm 2 [.slw 9 1 h18.length,.i h10],bl 3 AFunc.e h11,bl 2 AMem.e h12,bl 3 AExport.e h13,bl 1 (eI .i64) h14,bl 1 (eI .i64) h15,bl 1 (eL 1 (eI .i64)) h16,bl 5 AInst.e h17,bl 1 (eI .i64) h18]) (fun v76 => (.tup [],[k4 1 h2 h3 2 h11.length 3 h12.length h4 4 h13.length h5 5 h14.length h6 h7 10 v76.q1.length 7 h16.length 11 v76.l2.length h8 h9,bm 2 [.slw 9 1 h18.length,.i v76.1],bl 3 AFunc.e h11,bl 2 AMem.e h12,bl 3 AExport.e h13,bl 1 (eI .i64) h14,none,bl 1 (eL 1 (eI .i64)) h16,none,bl 1 (eI .i64) h18,bl 1 (eI .i64) v76.q1,bl 5 AInst.e v76.l2])) (kg_constant.f k t1 h2 h3 h4 h5 h6 h7 h8 h9 h10 h11 h12 h13 h14 h15 h16 h17 h18) := okP (kg_constant.f · t1 h2 h3 h4 h5 h6 h7 h8 h9 h10 h11 h12 h13 h14 h15 h16 h17 h18) (kg_constant.s · t1 h2 h3 h4 h5 h6 h7 h8 h9 h10 h11 h12 h13 h14 h15 h16 h17 h18) rfl (fun k => by kernel_rfl) (fun k => by kernel_rfl) rfl rfl k
end
def kg_value.b3 (k : Nat) (t1 : Int) (h2 : List AType) (h3 : List AImport) (h4 : List AGlobal) (h5 : List AData) (h6 : List Int) (h7 : List Int) (h8 : Int) (h9 : Bool) (h11 : List AFunc) (h12 : List AMem) (h13 : List AExport) (h14 : List Int) (h15 : List Int) (h16 : List (List Int)) (h17 : List AInst) (h18 : List Int) : (Int × Int) → Option ((Int × Int) ⊕ (Int ⊕ (Int × List AInst))) := fun (k292,h293) => (if k292 < (h14.length : Int) then ((keep_Tape_Next.f k (3 : Int) h293 h18).bind fun (r319,r320) => (if (h14.length : Int) ≠ 0 then (if (0 : Int) ≤ (irem .i64 (iadd .i64 k292 r319) (h14.length : Int)) ∧ (irem .i64 (iadd .i64 k292 r319) (h14.length : Int)) < (h14.length : Int) then (h14[((irem .i64 (iadd .i64 k292 r319) (h14.length : Int))).toNat]?.bind fun e322 => (if e322 = t1 then ((kg_put.f k (32 : Int) (irem .i64 (iadd .i64 k292 r319) (h14.length : Int)) (0 : Int) (0 : Int) h2 h3 h4 h5 h6 h7 h8 h9 r320 h11 h12 h13 h14 h15 h16 h17 h18).bind fun r324 => (if roomP (h15.length + 1) 8 then (some (.inr (.inr (r320,r324)))) else none)) else (some (.inl ((iadd .i64 k292 1),r320))))) else none) else none)) else (some (.inr (.inl h293))))
def kg_value.b11 (k : Nat) (t1 : Int) (h2 : List AType) (h3 : List AImport) (h4 : List AGlobal) (h5 : List AData) (h6 : List Int) (h7 : List Int) (h8 : Int) (h9 : Bool) (h11 : List AFunc) (h12 : List AMem) (h13 : List AExport) (h14 : List Int) (h15 : List Int) (h16 : List (List Int)) (h17 : List AInst) (h18 : List Int) (r276 : Int) : Int → Option (Int ⊕ (Unit ⊕ (List AInst))) := fun k336 => (if k336 < (h4.length : Int) then ((at? h4 k336).bind fun e351 => (if e351.fType = t1 then ((kg_put.f k (35 : Int) k336 (0 : Int) (0 : Int) h2 h3 h4 h5 h6 h7 h8 h9 r276 h11 h12 h13 h14 h15 h16 h17 h18).bind fun r353 => (if roomP (h15.length + 1) 8 then (some (.inr (.inr r353))) else none)) else (some (.inl (iadd .i64 k336 1))))) else (some (.inr (.inl ()))))
def kg_value.f : Nat → Int → List AType → List AImport → List AGlobal → List AData → List Int → List Int → Int → Bool → Int → List AFunc → List AMem → List AExport → List Int → List Int → List (List Int) → List AInst → List Int → Option (Int × List Int × List AInst)
 | 0,_,_,_,_,_,_,_,_,_,_,_,_,_,_,_,_,_,_ => none
 | k + 1,t1,h2,h3,h4,h5,h6,h7,h8,h9,h10,h11,h12,h13,h14,h15,h16,h17,h18 => (segB ((keep_Tape_Next.f k (3 : Int) h10 h18).bind fun (r275,r276) => (if r275 = 0 then (altB (loopS (kg_value.b3 k t1 h2 h3 h4 h5 h6 h7 h8 h9 h11 h12 h13 h14 h15 h16 h17 h18) k ((0 : Int),r276)) (fun h308 => (some (.inl h308))) (fun (h309,h310) => (some (.inr (h309,(h15 ++ ([t1] : List Int)),h310))))) else (if r275 = 1 then (altB (loopS (kg_value.b11 k t1 h2 h3 h4 h5 h6 h7 h8 h9 h11 h12 h13 h14 h15 h16 h17 h18 r276) k (0 : Int)) (fun _ => (some (.inl r276))) (fun h345 => (some (.inr (r276,(h15 ++ ([t1] : List Int)),h345))))) else (some (.inl r276))))) (fun h274 => ((kg_constant.f k t1 h2 h3 h4 h5 h6 h7 h8 h9 h274 h11 h12 h13 h14 h15 h16 h17 h18).bind fun (r358,r359,r360) => (some (r358,r359,r360)))))
section
variable (k : Nat) (t1 : Int) (h2 : List AType) (h3 : List AImport) (h4 : List AGlobal) (h5 : List AData) (h6 : List Int) (h7 : List Int) (h8 : Int) (h9 : Bool) (h10 : Int) (h11 : List AFunc) (h12 : List AMem) (h13 : List AExport) (h14 : List Int) (h15 : List Int) (h16 : List (List Int)) (h17 : List AInst) (h18 : List Int)
noncomputable def kg_value.s : Sc (Int × List Int × List AInst) := (.seg (O := Int) 16 (.cl 0 4 (keep_Tape_Next.ok k (3 : Int) h10 h18) fun v277 => (.bq 1 1 12 false (v277.1 = 0) (.loop2 (V := Int × Int) (O := Int) (O2 := Int × List AInst) 3 ((0 : Int),v277.2) (fun v311 => ⟨mk 99 [(0,.p 0 17 0 0),(1,.i t1),(4,.i v311.1)],[k4 1 h2 h3 2 h11.length 3 h12.length h4 4 h13.length h5 5 h14.length h6 h7 6 h15.length 7 h16.length 8 h17.length h8 h9,bm 2 [.slw 9 1 h18.length,.i v311.2],bl 3 AFunc.e h11,bl 2 AMem.e h12,bl 3 AExport.e h13,bl 1 (eI .i64) h14,bl 1 (eI .i64) h15,bl 1 (eL 1 (eI .i64)) h16,bl 5 AInst.e h17,bl 1 (eI .i64) h18]⟩) (fun v311 => (.bq 3 6 20 false (v311.1 < (h14.length : Int)) (.cl 5 5 (keep_Tape_Next.ok k (3 : Int) v311.2 h18) fun v321 => (.ck 5 12 [(h14.length : Int) ≠ 0] (.ck 6 5 [(0 : Int) ≤ (irem .i64 (iadd .i64 v311.1 v321.1) (h14.length : Int)),(irem .i64 (iadd .i64 v311.1 v321.1) (h14.length : Int)) < (h14.length : Int)] (.op 6 6 (Rd.ld 1 (eI .i64) h14 (((irem .i64 (iadd .i64 v311.1 v321.1) (h14.length : Int))).toNat)) fun v323 => (.bq 6 8 44 false (v323 = t1) (.cl 7 3 (kg_put.ok k (32 : Int) (irem .i64 (iadd .i64 v311.1 v321.1) (h14.length : Int)) (0 : Int) (0 : Int) h2 h3 h4 h5 h6 h7 h8 h9 v321.2 h11 h12 h13 h14 h15 h16 h17 h18) fun v325 => (.ch 8 7 (roomP (h15.length + 1) 8) (room_app 8 h15.length ([t1] : List Int) (mX (eI .i64) ([t1] : List Int))) (.rS 8 7 56 (slw_appX 12 1 h15 ([t1] : List Int) (mX (eI .i64) ([t1] : List Int))) (.rB 8 7 12 (pur_appX 1 (eI .i64) h15 ([t1] : List Int) (mX (eI .i64) ([t1] : List Int))) (.ret (.inr (.inr (v321.2,v325)))))))) (.ret (.inl ((iadd .i64 v311.1 1),v321.2)))))))) (.ret (.inr (.inl v311.2))))) (.exit 1) (fun v326 => ⟨mk 99 [(0,.p 0 17 0 0),(1,.i t1)],[k4 1 h2 h3 2 h11.length 3 h12.length h4 4 h13.length h5 5 h14.length h6 h7 6 h15.length 7 h16.length 8 h17.length h8 h9,bm 2 [.slw 9 1 h18.length,.i v326],bl 3 AFunc.e h11,bl 2 AMem.e h12,bl 3 AExport.e h13,bl 1 (eI .i64) h14,bl 1 (eI .i64) h15,bl 1 (eL 1 (eI .i64)) h16,bl 5 AInst.e h17,bl 1 (eI .i64) h18]⟩) (fun v326 => (.ret (.inl v326))) .ret (fun v327 => ⟨mk 99 [(0,.p 0 17 0 0),(1,.i t1)],[k4 1 h2 h3 2 h11.length 3 h12.length h4 4 h13.length h5 5 h14.length h6 h7 10 (((h15 ++ ([t1] : List Int))).length) 7 h16.length 11 v327.2.length h8 h9,bm 2 [.slw 9 1 h18.length,.i v327.1],bl 3 AFunc.e h11,bl 2 AMem.e h12,bl 3 AExport.e h13,bl 1 (eI .i64) h14,none,bl 1 (eL 1 (eI .i64)) h16,none,bl 1 (eI .i64) h18,bl 1 (eI .i64) (h15 ++ ([t1] : List Int)),bl 5 AInst.e v327.2]⟩) fun v327 => (.ret (.inr (v327.1,(h15 ++ ([t1] : List Int)),v327.2)))) (.bq 9 1 59 false (v277.1 = 1) (.loop2 (V := Int) (O := Unit) (O2 := List AInst) 11 (0 : Int) (fun v346 => ⟨mk 99 [(0,.p 0 17 0 0),(1,.i t1),(6,.i v346)],[k4 1 h2 h3 2 h11.length 3 h12.length h4 4 h13.length h5 5 h14.length h6 h7 6 h15.length 7 h16.length 8 h17.length h8 h9,bm 2 [.slw 9 1 h18.length,.i v277.2],bl 3 AFunc.e h11,bl 2 AMem.e h12,bl 3 AExport.e h13,bl 1 (eI .i64) h14,bl 1 (eI .i64) h15,bl 1 (eL 1 (eI .i64)) h16,bl 5 AInst.e h17,bl 1 (eI .i64) h18]⟩) (fun v346 => (.rS 11 6 67 (lm AGlobal.e h4) (.bq 11 7 68 false (v346 < (h4.length : Int)) (.op 13 6 (Rd.el AGlobal.e h4 v346) fun v352 => (.bq 13 10 81 false (v352.fType = t1) (.cl 14 3 (kg_put.ok k (35 : Int) v346 (0 : Int) (0 : Int) h2 h3 h4 h5 h6 h7 h8 h9 v277.2 h11 h12 h13 h14 h15 h16 h17 h18) fun v354 => (.ch 15 7 (roomP (h15.length + 1) 8) (room_app 8 h15.length ([t1] : List Int) (mX (eI .i64) ([t1] : List Int))) (.rS 15 7 93 (slw_appX 12 1 h15 ([t1] : List Int) (mX (eI .i64) ([t1] : List Int))) (.rB 15 7 12 (pur_appX 1 (eI .i64) h15 ([t1] : List Int) (mX (eI .i64) ([t1] : List Int))) (.ret (.inr (.inr v354))))))) (.ret (.inl (iadd .i64 v346 1))))) (.ret (.inr (.inl ())))))) (.exit 3) (fun v355 => ⟨mk 99 [(0,.p 0 17 0 0),(1,.i t1)],[k4 1 h2 h3 2 h11.length 3 h12.length h4 4 h13.length h5 5 h14.length h6 h7 6 h15.length 7 h16.length 8 h17.length h8 h9,bm 2 [.slw 9 1 h18.length,.i v277.2],bl 3 AFunc.e h11,bl 2 AMem.e h12,bl 3 AExport.e h13,bl 1 (eI .i64) h14,bl 1 (eI .i64) h15,bl 1 (eL 1 (eI .i64)) h16,bl 5 AInst.e h17,bl 1 (eI .i64) h18]⟩) (fun v355 => (.ret (.inl v277.2))) .ret (fun v356 => ⟨mk 99 [(0,.p 0 17 0 0),(1,.i t1)],[k4 1 h2 h3 2 h11.length 3 h12.length h4 4 h13.length h5 5 h14.length h6 h7 10 (((h15 ++ ([t1] : List Int))).length) 7 h16.length 11 v356.length h8 h9,bm 2 [.slw 9 1 h18.length,.i v277.2],bl 3 AFunc.e h11,bl 2 AMem.e h12,bl 3 AExport.e h13,bl 1 (eI .i64) h14,none,bl 1 (eL 1 (eI .i64)) h16,none,bl 1 (eI .i64) h18,bl 1 (eI .i64) (h15 ++ ([t1] : List Int)),bl 5 AInst.e v356]⟩) fun v356 => (.ret (.inr (v277.2,(h15 ++ ([t1] : List Int)),v356)))) (.ret (.inl v277.2))))) (fun v357 => ⟨mk 99 [(0,.p 0 17 0 0),(1,.i t1)],[k4 1 h2 h3 2 h11.length 3 h12.length h4 4 h13.length h5 5 h14.length h6 h7 6 h15.length 7 h16.length 8 h17.length h8 h9,bm 2 [.slw 9 1 h18.length,.i v357],bl 3 AFunc.e h11,bl 2 AMem.e h12,bl 3 AExport.e h13,bl 1 (eI .i64) h14,bl 1 (eI .i64) h15,bl 1 (eL 1 (eI .i64)) h16,bl 5 AInst.e h17,bl 1 (eI .i64) h18]⟩) fun v357 => (.cl 16 2 (kg_constant.ok k t1 h2 h3 h4 h5 h6 h7 h8 h9 v357 h11 h12 h13 h14 h15 h16 h17 h18) fun v361 => (.ret (v361.1,v361.q1,v361.l2))))
theorem kg_value.ok : op k 173 ([.p 0 17 0 0,.i t1],[k4 1 h2 h3 2 h11.length 3 h12.length h4 4 h13.length h5 5 h14.length h6 h7 6 h15.length 7 h16.length 8 h17.length h8 h9,bm 2 [.slw 9 1 h18.length,.i h10],bl 3 AFunc.e h11,bl 2 AMem.e h12,bl 3 AExport.e h13,bl 1 (eI .i64) h14,bl 1 (eI .i64) h15,bl 1 (eL 1 (eI .i64)) h16,bl 5 AInst.e h17,bl 1 (eI .i64) h18]) (fun v362 => (.tup [],[k4 1 h2 h3 2 h11.length 3 h12.length h4 4 h13.length h5 5 h14.length h6 h7 10 v362.q1.length 7 h16.length 11 v362.l2.length h8 h9,bm 2 [.slw 9 1 h18.length,.i v362.1],bl 3 AFunc.e h11,bl 2 AMem.e h12,bl 3 AExport.e h13,bl 1 (eI .i64) h14,none,bl 1 (eL 1 (eI .i64)) h16,none,bl 1 (eI .i64) h18,bl 1 (eI .i64) v362.q1,bl 5 AInst.e v362.l2])) (kg_value.f k t1 h2 h3 h4 h5 h6 h7 h8 h9 h10 h11 h12 h13 h14 h15 h16 h17 h18) := okP (kg_value.f · t1 h2 h3 h4 h5 h6 h7 h8 h9 h10 h11 h12 h13 h14 h15 h16 h17 h18) (kg_value.s · t1 h2 h3 h4 h5 h6 h7 h8 h9 h10 h11 h12 h13 h14 h15 h16 h17 h18) rfl (fun k => by kernel_rfl) (fun k => by kernel_rfl) rfl rfl k
end
def kg_need.b2 (k : Nat) (h2 : List AType) (h3 : List AImport) (h4 : List AGlobal) (h5 : List AData) (h6 : List Int) (h7 : List Int) (h8 : Int) (h9 : Bool) (h10 : List Int) (h12 : List AFunc) (h13 : List AMem) (h14 : List AExport) (h15 : List Int) (h17 : List (List Int)) (h19 : List Int) : (Int × Int × List Int × List AInst) → Option ((Int × Int × List Int × List AInst) ⊕ (Int × List Int × List AInst)) := fun (i64,h65,h66,h67) => (if i64 < (h10.length : Int) then (if (0 : Int) ≤ i64 ∧ i64 < (h10.length : Int) then (h10[(i64).toNat]?.bind fun e78 => ((kg_value.f k e78 h2 h3 h4 h5 h6 h7 h8 h9 h65 h12 h13 h14 h15 h66 h17 h67 h19).bind fun (r80,r81,r82) => (some (.inl ((iadd .i64 i64 1),r80,r81,r82))))) else none) else (some (.inr (h65,h66,h67))))
def kg_need.f : Nat → Int → List AType → List AImport → List AGlobal → List AData → List Int → List Int → Int → Bool → List Int → Int → List AFunc → List AMem → List AExport → List Int → List Int → List (List Int) → List AInst → List Int → Option (Int × List Int × List AInst)
 | 0,_,_,_,_,_,_,_,_,_,_,_,_,_,_,_,_,_,_,_ => none
 | k + 1,height1,h2,h3,h4,h5,h6,h7,h8,h9,h10,h11,h12,h13,h14,h15,h16,h17,h18,h19 => ((kg_top.f k h19 h11 h2 h3 h12 h13 h4 h14 h5 h15 h6 h7 h16 h17 h18 h8 h9 h10 height1).bind fun r56 => (if r56 = true then (some (h11,h16,h18)) else ((loopS (kg_need.b2 k h2 h3 h4 h5 h6 h7 h8 h9 h10 h12 h13 h14 h15 h17 h19) k ((0 : Int),h11,h16,h18)).bind fun (h74,h75,h76) => (some (h74,h75,h76)))))
section
variable (k : Nat) (height1 : Int) (h2 : List AType) (h3 : List AImport) (h4 : List AGlobal) (h5 : List AData) (h6 : List Int) (h7 : List Int) (h8 : Int) (h9 : Bool) (h10 : List Int) (h11 : Int) (h12 : List AFunc) (h13 : List AMem) (h14 : List AExport) (h15 : List Int) (h16 : List Int) (h17 : List (List Int)) (h18 : List AInst) (h19 : List Int)
noncomputable def kg_need.s : Sc (Int × List Int × List AInst) := (.op 0 3 (Rd.bcall (args := [.p 0 17 0 0,.o 1 1 h10.length,.i height1]) (h := [k4 2 h2 h3 3 h12.length 4 h13.length h4 5 h14.length h5 6 h15.length h6 h7 7 h16.length 8 h17.length 9 h18.length h8 h9,bl 1 (eI .i64) h10,bm 2 [.slw 10 1 h19.length,.i h11],bl 3 AFunc.e h12,bl 2 AMem.e h13,bl 3 AExport.e h14,bl 1 (eI .i64) h15,bl 1 (eI .i64) h16,bl 1 (eL 1 (eI .i64)) h17,bl 5 AInst.e h18,bl 1 (eI .i64) h19]) (kg_top.ok k h19 h11 h2 h3 h12 h13 h4 h14 h5 h15 h6 h7 h16 h17 h18 h8 h9 h10 height1) rfl rfl (by kernel_rfl) rfl (by kernel_rfl)) fun v57 => (.br 0 3 10 v57 (.ret (h11,h16,h18)) (.loop (V := Int × Int × List Int × List AInst) (O := Int × List Int × List AInst) 2 ((0 : Int),h11,h16,h18) (fun v77 => ⟨mk 23 [(0,.p 0 17 0 0),(1,.o 1 1 h10.length),(6,.i v77.1)],[k4 2 h2 h3 3 h12.length 4 h13.length h4 5 h14.length h5 6 h15.length h6 h7 11 v77.q2.length 8 h17.length 12 v77.l3.length h8 h9,bl 1 (eI .i64) h10,bm 2 [.slw 10 1 h19.length,.i v77.q1],bl 3 AFunc.e h12,bl 2 AMem.e h13,bl 3 AExport.e h14,bl 1 (eI .i64) h15,none,bl 1 (eL 1 (eI .i64)) h17,none,bl 1 (eI .i64) h19,bl 1 (eI .i64) v77.q2,bl 5 AInst.e v77.l3]⟩) (fun v77 => (.bq 2 3 14 false (v77.1 < (h10.length : Int)) (.ck 4 3 [(0 : Int) ≤ v77.1,v77.1 < (h10.length : Int)] (.op 4 4 (Rd.ld 1 (eI .i64) h10 ((v77.1).toNat)) fun v79 => (.cl 4 5 (kg_value.ok k v79 h2 h3 h4 h5 h6 h7 h8 h9 v77.q1 h12 h13 h14 h15 v77.q2 h17 v77.l3 h19) fun v83 => (.ret (.inl ((iadd .i64 v77.1 1),v83.1,v83.q1,v83.l2)))))) (.ret (.inr (v77.q1,v77.q2,v77.l3))))) (.exit 0) (fun v84 => ⟨mk 23 [(0,.p 0 17 0 0)],[k4 2 h2 h3 3 h12.length 4 h13.length h4 5 h14.length h5 6 h15.length h6 h7 11 v84.q1.length 8 h17.length 12 v84.l2.length h8 h9,bl 1 (eI .i64) h10,bm 2 [.slw 10 1 h19.length,.i v84.1],bl 3 AFunc.e h12,bl 2 AMem.e h13,bl 3 AExport.e h14,bl 1 (eI .i64) h15,none,bl 1 (eL 1 (eI .i64)) h17,none,bl 1 (eI .i64) h19,bl 1 (eI .i64) v84.q1,bl 5 AInst.e v84.l2]⟩) fun v84 => (.ret (v84.1,v84.q1,v84.l2)))))
theorem kg_need.ok : op k 255 ([.p 0 17 0 0,.o 1 1 h10.length,.i height1],[k4 2 h2 h3 3 h12.length 4 h13.length h4 5 h14.length h5 6 h15.length h6 h7 7 h16.length 8 h17.length 9 h18.length h8 h9,bl 1 (eI .i64) h10,bm 2 [.slw 10 1 h19.length,.i h11],bl 3 AFunc.e h12,bl 2 AMem.e h13,bl 3 AExport.e h14,bl 1 (eI .i64) h15,bl 1 (eI .i64) h16,bl 1 (eL 1 (eI .i64)) h17,bl 5 AInst.e h18,bl 1 (eI .i64) h19]) (fun v85 => (.tup [],[k4 2 h2 h3 3 h12.length 4 h13.length h4 5 h14.length h5 6 h15.length h6 h7 11 v85.q1.length 8 h17.length 12 v85.l2.length h8 h9,bl 1 (eI .i64) h10,bm 2 [.slw 10 1 h19.length,.i v85.1],bl 3 AFunc.e h12,bl 2 AMem.e h13,bl 3 AExport.e h14,bl 1 (eI .i64) h15,none,bl 1 (eL 1 (eI .i64)) h17,none,bl 1 (eI .i64) h19,bl 1 (eI .i64) v85.q1,bl 5 AInst.e v85.l2])) (kg_need.f k height1 h2 h3 h4 h5 h6 h7 h8 h9 h10 h11 h12 h13 h14 h15 h16 h17 h18 h19) := okP (kg_need.f · height1 h2 h3 h4 h5 h6 h7 h8 h9 h10 h11 h12 h13 h14 h15 h16 h17 h18 h19) (kg_need.s · height1 h2 h3 h4 h5 h6 h7 h8 h9 h10 h11 h12 h13 h14 h15 h16 h17 h18 h19) rfl (fun k => by kernel_rfl) (fun k => by kernel_rfl) rfl rfl k
end
def kg_swap.f : Nat → List AType → List AImport → List AGlobal → List AData → List Int → List Int → Int → Bool → List Int → List Int → Int → List AFunc → List AMem → List AExport → List Int → List Int → List (List Int) → List AInst → List Int → Option (List Int)
 | 0,_,_,_,_,_,_,_,_,_,_,_,_,_,_,_,_,_,_,_ => none
 | k + 1,h1,h2,h3,h4,h5,h6,h7,h8,h9,h10,h11,h12,h13,h14,h15,h16,h17,h18,h19 => (if (0 : Int) ≤ (isub .i64 (h16.length : Int) (h9.length : Int)) ∧ (0 : Nat) ≤ ((isub .i64 (h16.length : Int) (h9.length : Int))).toNat ∧ (((isub .i64 (h16.length : Int) (h9.length : Int))).toNat : Nat) ≤ h16.length then (if roomP (0 + (List.take (((isub .i64 (h16.length : Int) (h9.length : Int))).toNat - 0) (List.drop 0 h16)).length) 8 then (if roomP ((List.take (((isub .i64 (h16.length : Int) (h9.length : Int))).toNat - 0) (List.drop 0 h16)).length + h10.length) 8 then (some ((List.take (((isub .i64 (h16.length : Int) (h9.length : Int))).toNat - 0) (List.drop 0 h16)) ++ h10)) else none) else none) else none)
section
variable (k : Nat) (h1 : List AType) (h2 : List AImport) (h3 : List AGlobal) (h4 : List AData) (h5 : List Int) (h6 : List Int) (h7 : Int) (h8 : Bool) (h9 : List Int) (h10 : List Int) (h11 : Int) (h12 : List AFunc) (h13 : List AMem) (h14 : List AExport) (h15 : List Int) (h16 : List Int) (h17 : List (List Int)) (h18 : List AInst) (h19 : List Int)
noncomputable def kg_swap.s : Sc (List Int) := (.ck 0 14 [(0 : Int) ≤ (isub .i64 (h16.length : Int) (h9.length : Int)),(0 : Nat) ≤ ((isub .i64 (h16.length : Int) (h9.length : Int))).toNat,(((isub .i64 (h16.length : Int) (h9.length : Int))).toNat : Nat) ≤ h16.length] (.ch 0 15 (roomP (0 + (List.take (((isub .i64 (h16.length : Int) (h9.length : Int))).toNat - 0) (List.drop 0 h16)).length) 8) (room_app 8 ([] : List Int).length (List.take (((isub .i64 (h16.length : Int) (h9.length : Int))).toNat - 0) (List.drop 0 h16)) (midX (eI .i64) h16 0 (((isub .i64 (h16.length : Int) (h9.length : Int))).toNat - 0))) (.rS 0 15 21 (slw_appX 13 1 ([] : List Int) (List.take (((isub .i64 (h16.length : Int) (h9.length : Int))).toNat - 0) (List.drop 0 h16)) (midX (eI .i64) h16 0 (((isub .i64 (h16.length : Int) (h9.length : Int))).toNat - 0))) (.rB 0 15 13 (pur_appX 1 (eI .i64) ([] : List Int) (List.take (((isub .i64 (h16.length : Int) (h9.length : Int))).toNat - 0) (List.drop 0 h16)) (midX (eI .i64) h16 0 (((isub .i64 (h16.length : Int) (h9.length : Int))).toNat - 0))) (.ch 0 17 (roomP ((List.take (((isub .i64 (h16.length : Int) (h9.length : Int))).toNat - 0) (List.drop 0 h16)).length + h10.length) 8) (room_app 8 (List.take (((isub .i64 (h16.length : Int) (h9.length : Int))).toNat - 0) (List.drop 0 h16)).length h10 (mX (eI .i64) h10)) (.rS 0 17 23 (slw_appX 14 1 (List.take (((isub .i64 (h16.length : Int) (h9.length : Int))).toNat - 0) (List.drop 0 h16)) h10 (mX (eI .i64) h10)) (.rB 0 17 14 (pur_appX 1 (eI .i64) (List.take (((isub .i64 (h16.length : Int) (h9.length : Int))).toNat - 0) (List.drop 0 h16)) h10 (mX (eI .i64) h10)) (.ret ((List.take (((isub .i64 (h16.length : Int) (h9.length : Int))).toNat - 0) (List.drop 0 h16)) ++ h10)))))))))
theorem kg_swap.ok : op k 256 ([.p 0 17 0 0,.o 1 1 h9.length,.o 2 1 h10.length],[k4 3 h1 h2 4 h12.length 5 h13.length h3 6 h14.length h4 7 h15.length h5 h6 8 h16.length 9 h17.length 10 h18.length h7 h8,bl 1 (eI .i64) h9,bl 1 (eI .i64) h10,bm 2 [.slw 11 1 h19.length,.i h11],bl 3 AFunc.e h12,bl 2 AMem.e h13,bl 3 AExport.e h14,bl 1 (eI .i64) h15,bl 1 (eI .i64) h16,bl 1 (eL 1 (eI .i64)) h17,bl 5 AInst.e h18,bl 1 (eI .i64) h19]) (fun v21 => (.tup [],[k4 3 h1 h2 4 h12.length 5 h13.length h3 6 h14.length h4 7 h15.length h5 h6 12 v21.length 9 h17.length 10 h18.length h7 h8,bl 1 (eI .i64) h9,bl 1 (eI .i64) h10,bm 2 [.slw 11 1 h19.length,.i h11],bl 3 AFunc.e h12,bl 2 AMem.e h13,bl 3 AExport.e h14,bl 1 (eI .i64) h15,bl 1 (eI .i64) h16,bl 1 (eL 1 (eI .i64)) h17,bl 5 AInst.e h18,bl 1 (eI .i64) h19,bl 1 (eI .i64) v21])) (kg_swap.f k h1 h2 h3 h4 h5 h6 h7 h8 h9 h10 h11 h12 h13 h14 h15 h16 h17 h18 h19) := okP (kg_swap.f · h1 h2 h3 h4 h5 h6 h7 h8 h9 h10 h11 h12 h13 h14 h15 h16 h17 h18 h19) (fun _ => kg_swap.s h9 h10 h16) rfl (fun k => by kernel_rfl) (fun k => by kernel_rfl) rfl rfl k
end
end Go.R4

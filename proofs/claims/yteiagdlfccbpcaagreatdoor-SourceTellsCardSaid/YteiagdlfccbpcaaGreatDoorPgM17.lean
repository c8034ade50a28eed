/- Own texts, laid together: Pg10ZDT, Pg10ZDBy, Pg10ZDTreeR, Pg10ZDLay, Pg10ZDLayB, Pg10ZDLayC, Pg10ZDLayD, Pg10ZDLayE, Pg10ZDIm1, Pg10ZDCrA, Pg10ZDVal, Pg10ZDValB, Pg10ZDIm2, Pg10ZDCmp. -/
import Derived.Test.YteiagdlfccbpcaaGreatDoorProg
import Derived.Test.YteiagdlfccbpcaaGreatDoorPgM11
import Derived.KernelRfl
import Derived.Test.YteiagdlfccbpcaaGreatDoorPgM16
import Derived.Test.YteiagdlfccbpcaaGreatDoorPgM12
set_option linter.unusedSimpArgs false
set_option linter.unusedVariables false
set_option maxHeartbeats 64000000
namespace Go.Proofs.YteiagdlfccbpcaaGreatDoorPg
open Go Go.RowKit
section
def tiF:TI:={ kind:=.fn,size:=1,bytes:=8,zero:=[.nilf],good:=true }
def tbl:List TI:=[
 TI.bad,
 tiF,
 { kind:=.int .i64,size:=1,bytes:=8,zero:=[.int .i64 0],good:=true },
 { kind:=.int .i64,size:=1,bytes:=8,zero:=[.int .i64 0],good:=true },
 { kind:=.bool,size:=1,bytes:=1,zero:=[.bool false],good:=true },
 { kind:=.int .u8,size:=1,bytes:=1,zero:=[.int .u8 0],good:=true },
 { kind:=.int .u8,size:=1,bytes:=1,zero:=[.int .u8 0],good:=true },
 { kind:=.struct [(0,2),(1,3),(2,4),(3,6)],size:=4,bytes:=24,zero:=[.int .i64 0,.int .i64 0,.bool false,.int .u8 0],good:=true,eqok:=true },
 { kind:=.struct [(0,2),(1,3),(2,4),(3,6)],size:=4,bytes:=24,zero:=[.int .i64 0,.int .i64 0,.bool false,.int .u8 0],good:=true,eqok:=true },
 { kind:=.str,size:=1,bytes:=16,zero:=[.str []],good:=true },
 { kind:=.str,size:=1,bytes:=16,zero:=[.str []],good:=true },
 { kind:=.str,size:=1,bytes:=16,zero:=[.str []],good:=true },
 { kind:=.int .u64,size:=1,bytes:=8,zero:=[.int .u64 0],good:=true },
 { kind:=.struct [(0,9),(1,12)],size:=2,bytes:=24,zero:=[.str [],.int .u64 0],good:=true },
 { kind:=.struct [(0,9),(1,12)],size:=2,bytes:=24,zero:=[.str [],.int .u64 0],good:=true },
 { kind:=.ptr 249,size:=1,bytes:=8,zero:=[.nilp],good:=true },
 { kind:=.ptr 252,size:=1,bytes:=8,zero:=[.nilp],good:=true },
 { kind:=.ptr 260,size:=1,bytes:=8,zero:=[.nilp],good:=true },
 { kind:=.struct [(0,17)],size:=1,bytes:=8,zero:=[.nilp],good:=true },
 { kind:=.struct [(0,17)],size:=1,bytes:=8,zero:=[.nilp],good:=true },
 { kind:=.iface,size:=1,bytes:=16,zero:=[.nili],good:=true },
 { kind:=.int .i32,size:=1,bytes:=4,zero:=[.int .i32 0],good:=true },
 { kind:=.sl 42,size:=1,bytes:=24,zero:=[.nils],good:=true },
 { kind:=.ptr 76,size:=1,bytes:=8,zero:=[.nilp],good:=true },
 tiF,
 { kind:=.sl 48,size:=1,bytes:=24,zero:=[.nils],good:=true },
 { kind:=.sl 43,size:=1,bytes:=24,zero:=[.nils],good:=true },
 { kind:=.sl 5,size:=1,bytes:=24,zero:=[.nils],good:=true },
 { kind:=.struct [(0,25),(1,26),(2,27),(3,3),(4,3)],size:=5,bytes:=88,zero:=[.nils,.nils,.nils,.int .i64 0,.int .i64 0],good:=true },
 { kind:=.struct [(0,25),(1,26),(2,27),(3,3),(4,3)],size:=5,bytes:=88,zero:=[.nils,.nils,.nils,.int .i64 0,.int .i64 0],good:=true },
 tiF,
 TI.bad,
 tiF,
 { kind:=.sl 60,size:=1,bytes:=24,zero:=[.nils],good:=true },
 { kind:=.sl 38,size:=1,bytes:=24,zero:=[.nils],good:=true },
 { kind:=.struct [(0,34),(1,3)],size:=2,bytes:=32,zero:=[.nils,.int .i64 0],good:=true },
 { kind:=.struct [(0,34),(1,3)],size:=2,bytes:=32,zero:=[.nils,.int .i64 0],good:=true },
 { kind:=.struct [(0,9),(1,3),(2,4)],size:=3,bytes:=32,zero:=[.str [],.int .i64 0,.bool false],good:=true,eqok:=true },
 { kind:=.struct [(0,9),(1,3),(2,4)],size:=3,bytes:=32,zero:=[.str [],.int .i64 0,.bool false],good:=true,eqok:=true },
 { kind:=.struct [(0,3),(1,9),(2,36),(4,38)],size:=7,bytes:=88,zero:=[.int .i64 0,.str [],.nils,.int .i64 0,.str [],.int .i64 0,.bool false],good:=true },
 { kind:=.struct [(0,3),(1,9),(2,36),(4,38)],size:=7,bytes:=88,zero:=[.int .i64 0,.str [],.nils,.int .i64 0,.str [],.int .i64 0,.bool false],good:=true },
 { kind:=.struct [(0,3),(1,33),(2,40),(9,9),(10,3)],size:=11,bytes:=144,zero:=[.int .i64 0,.nils,.int .i64 0,.str [],.nils,.int .i64 0,.str [],.int .i64 0,.bool false,.str [],.int .i64 0],good:=true },
 { kind:=.struct [(0,3),(1,33),(2,40),(9,9),(10,3)],size:=11,bytes:=144,zero:=[.int .i64 0,.nils,.int .i64 0,.str [],.nils,.int .i64 0,.str [],.int .i64 0,.bool false,.str [],.int .i64 0],good:=true },
 { kind:=.sl 51,size:=1,bytes:=24,zero:=[.nils],good:=true },
 { kind:=.int .i64,size:=1,bytes:=8,zero:=[.int .i64 0],good:=true },
 TI.bad,
 tiF,
 { kind:=.struct [(0,9),(1,36)],size:=3,bytes:=48,zero:=[.str [],.nils,.int .i64 0],good:=true },
 { kind:=.struct [(0,9),(1,36)],size:=3,bytes:=48,zero:=[.str [],.nils,.int .i64 0],good:=true },
 tiF,
 { kind:=.sl 72,size:=1,bytes:=24,zero:=[.nils],good:=true },
 { kind:=.sl 72,size:=1,bytes:=24,zero:=[.nils],good:=true },
 tiF,
 tiF,
 tiF,
 tiF,
 tiF,
 tiF,
 tiF,
 { kind:=.struct [(0,3),(1,9),(2,51)],size:=3,bytes:=48,zero:=[.int .i64 0,.str [],.nils],good:=true },
 { kind:=.struct [(0,3),(1,9),(2,51)],size:=3,bytes:=48,zero:=[.int .i64 0,.str [],.nils],good:=true },
 tiF,
 tiF,
 tiF,
 { kind:=.sl 93,size:=1,bytes:=24,zero:=[.nils],good:=true },
 TI.bad,
 tiF,
 tiF,
 tiF,
 tiF,
 tiF,
 { kind:=.struct [(0,3),(1,3),(2,9)],size:=3,bytes:=32,zero:=[.int .i64 0,.int .i64 0,.str []],good:=true,eqok:=true },
 { kind:=.struct [(0,3),(1,3),(2,9)],size:=3,bytes:=32,zero:=[.int .i64 0,.int .i64 0,.str []],good:=true,eqok:=true },
 { kind:=.map 9 85,size:=1,bytes:=8,zero:=[.nilm],good:=true },
 { kind:=.map 9 85,size:=1,bytes:=8,zero:=[.nilm],good:=true },
 { kind:=.struct [(0,25),(1,74),(2,27),(3,3),(4,3)],size:=5,bytes:=72,zero:=[.nils,.nilm,.nils,.int .i64 0,.int .i64 0],good:=true },
 { kind:=.struct [(0,25),(1,74),(2,27),(3,3),(4,3)],size:=5,bytes:=72,zero:=[.nils,.nilm,.nils,.int .i64 0,.int .i64 0],good:=true },
 TI.bad,
 tiF,
 tiF,
 tiF,
 tiF,
 tiF,
 tiF,
 tiF,
 { kind:=.ptr 165,size:=1,bytes:=8,zero:=[.nilp],good:=true },
 tiF,
 tiF,
 tiF,
 TI.bad,
 tiF,
 tiF,
 { kind:=.struct [(0,3),(1,3),(2,9),(3,51),(4,51),(5,40)],size:=12,bytes:=168,zero:=[.int .i64 0,.int .i64 0,.str [],.nils,.nils,.int .i64 0,.str [],.nils,.int .i64 0,.str [],.int .i64 0,.bool false],good:=true },
 { kind:=.struct [(0,3),(1,3),(2,9),(3,51),(4,51),(5,40)],size:=12,bytes:=168,zero:=[.int .i64 0,.int .i64 0,.str [],.nils,.nils,.int .i64 0,.str [],.nils,.int .i64 0,.str [],.int .i64 0,.bool false],good:=true },
 TI.bad,
 tiF,
 TI.bad,
 tiF,
 { kind:=.struct [(0,3),(1,25),(2,25),(3,3)],size:=4,bytes:=64,zero:=[.int .i64 0,.nils,.nils,.int .i64 0],good:=true },
 { kind:=.struct [(0,3),(1,25),(2,25),(3,3)],size:=4,bytes:=64,zero:=[.int .i64 0,.nils,.nils,.int .i64 0],good:=true },
 TI.bad,
 tiF,
 tiF,
 tiF,
 tiF,
 TI.bad,
 tiF,
 TI.bad,
 tiF,
 tiF,
 tiF,
 tiF,
 tiF,
 TI.bad,
 tiF,
 tiF,
 tiF,
 tiF,
 tiF,
 tiF,
 tiF,
 tiF,
 tiF,
 tiF,
 tiF,
 tiF,
 tiF,
 TI.bad,
 tiF,
 tiF,
 tiF,
 tiF,
 tiF,
 { kind:=.ptr 135,size:=1,bytes:=8,zero:=[.nilp],good:=true },
 { kind:=.struct [(0,23),(1,74),(2,64)],size:=3,bytes:=40,zero:=[.nilp,.nilm,.nils],good:=true },
 { kind:=.struct [(0,23),(1,74),(2,64)],size:=3,bytes:=40,zero:=[.nilp,.nilm,.nils],good:=true },
 tiF,
 TI.bad,
 tiF,
 TI.bad,
 tiF,
 tiF,
 tiF,
 tiF,
 tiF,
 tiF,
 tiF,
 tiF,
 tiF,
 { kind:=.sl 9,size:=1,bytes:=24,zero:=[.nils],good:=true },
 tiF,
 tiF,
 tiF,
 tiF,
 TI.bad,
 tiF,
 tiF,
 tiF,
 tiF,
 tiF,
 tiF,
 tiF,
 tiF,
 { kind:=.ptr 205,size:=1,bytes:=8,zero:=[.nilp],good:=true },
 { kind:=.struct [(0,163),(1,3)],size:=2,bytes:=16,zero:=[.nilp,.int .i64 0],good:=true },
 { kind:=.struct [(0,163),(1,3)],size:=2,bytes:=16,zero:=[.nilp,.int .i64 0],good:=true },
 tiF,
 { kind:=.int .u64,size:=1,bytes:=8,zero:=[.int .u64 0],good:=true },
 tiF,
 tiF,
 { kind:=.map 3 169,size:=1,bytes:=8,zero:=[.nilm],good:=true },
 tiF,
 tiF,
 { kind:=.ptr 175,size:=1,bytes:=8,zero:=[.nilp],good:=true },
 { kind:=.struct [(0,27),(1,44)],size:=2,bytes:=32,zero:=[.nils,.int .i64 0],good:=true },
 { kind:=.struct [(0,27),(1,44)],size:=2,bytes:=32,zero:=[.nils,.int .i64 0],good:=true },
 tiF,
 TI.bad,
 tiF,
 tiF,
 tiF,
 tiF,
 tiF,
 tiF,
 tiF,
 tiF,
 tiF,
 tiF,
 tiF,
 tiF,
 tiF,
 tiF,
 tiF,
 tiF,
 { kind:=.sl 3,size:=1,bytes:=24,zero:=[.nils],good:=true },
 tiF,
 tiF,
 tiF,
 { kind:=.map 3 197,size:=1,bytes:=8,zero:=[.nilm],good:=true },
 tiF,
 { kind:=.struct [(0,34),(1,3)],size:=2,bytes:=32,zero:=[.nils,.int .i64 0],good:=true },
 tiF,
 tiF,
 tiF,
 { kind:=.struct [(0,9),(1,51),(2,3),(3,163),(4,163)],size:=5,bytes:=64,zero:=[.str [],.nils,.int .i64 0,.nilp,.nilp],good:=true },
 { kind:=.struct [(0,9),(1,51),(2,3),(3,163),(4,163)],size:=5,bytes:=64,zero:=[.str [],.nils,.int .i64 0,.nilp,.nilp],good:=true },
 tiF,
 TI.bad,
 tiF,
 tiF,
 TI.bad,
 tiF,
 tiF,
 { kind:=.int .u64,size:=1,bytes:=8,zero:=[.int .u64 0],good:=true },
 { kind:=.sl 27,size:=1,bytes:=24,zero:=[.nils],good:=true },
 tiF,
 tiF,
 tiF,
 tiF,
 tiF,
 tiF,
 tiF,
 tiF,
 tiF,
 tiF,
 tiF,
 { kind:=.int .u32,size:=1,bytes:=4,zero:=[.int .u32 0],good:=true },
 { kind:=.arr 256 226,size:=256,bytes:=1024,zero:=(List.replicate 256 (.int .u32 0)),good:=true },
 tiF,
 tiF,
 tiF,
 tiF,
 tiF,
 tiF,
 tiF,
 tiF,
 tiF,
 tiF,
 tiF,
 tiF,
 tiF,
 { kind:=.arr 256 5,size:=256,bytes:=256,zero:=(List.replicate 256 (.int .u8 0)),good:=true },
 { kind:=.struct [(0,5),(1,5)],size:=2,bytes:=2,zero:=[.int .u8 0,.int .u8 0],good:=true,eqok:=true },
 { kind:=.struct [(0,5),(1,5)],size:=2,bytes:=2,zero:=[.int .u8 0,.int .u8 0],good:=true,eqok:=true },
 TI.bad,
 TI.bad,
 tiF,
 tiF,
 { kind:=.struct [(0,17),(1,17),(2,17),(3,9)],size:=4,bytes:=40,zero:=[.nilp,.nilp,.nilp,.str []],good:=true },
 { kind:=.struct [(0,17),(1,17),(2,17),(3,9)],size:=4,bytes:=40,zero:=[.nilp,.nilp,.nilp,.str []],good:=true },
 { kind:=.arr 0 16,size:=0,bytes:=0,zero:=[],good:=true },
 { kind:=.struct [(0,250)],size:=0,bytes:=0,zero:=[],good:=true },
 { kind:=.struct [(0,250)],size:=0,bytes:=0,zero:=[],good:=true },
 { kind:=.int .u8,size:=1,bytes:=1,zero:=[.int .u8 0],good:=true },
 { kind:=.int .u8,size:=1,bytes:=1,zero:=[.int .u8 0],good:=true },
 tiF,
 { kind:=.ptr 5,size:=1,bytes:=8,zero:=[.nilp],good:=true },
 { kind:=.int .i32,size:=1,bytes:=4,zero:=[.int .i32 0],good:=true },
 { kind:=.int .i32,size:=1,bytes:=4,zero:=[.int .i32 0],good:=true },
 { kind:=.struct [(0,12),(1,12),(2,226),(3,253),(4,5),(5,5),(6,254),(7,255),(8,256),(9,257),(10,258)],size:=11,bytes:=48,zero:=[.int .u64 0,.int .u64 0,.int .u32 0,.int .u8 0,.int .u8 0,.int .u8 0,.int .u8 0,.nilf,.nilp,.int .i32 0,.int .i32 0],good:=true },
 { kind:=.struct [(0,12),(1,12),(2,226),(3,253),(4,5),(5,5),(6,254),(7,255),(8,256),(9,257),(10,258)],size:=11,bytes:=48,zero:=[.int .u64 0,.int .u64 0,.int .u32 0,.int .u8 0,.int .u8 0,.int .u8 0,.int .u8 0,.nilf,.nilp,.int .i32 0,.int .i32 0],good:=true },
 { kind:=.other,size:=1,bytes:=8,zero:=[.nilp],good:=true }]
def tt (t:Nat):TI:=tbl.getD t TI.bad
set_option maxRecDepth 100000 in
theorem IT:bH Tryz.prog tt:=Io (l:=tbl) ⟨
 .inr rfl,
 .inl (by kernel_rfl),
 .inl (by kernel_rfl),
 .inl (by kernel_rfl),
 .inl (by kernel_rfl),
 .inl (by kernel_rfl),
 .inl (by kernel_rfl),
 .inl (by kernel_rfl),
 .inl (by kernel_rfl),
 .inl (by kernel_rfl),
 .inl (by kernel_rfl),
 .inl (by kernel_rfl),
 .inl (by kernel_rfl),
 .inl (by kernel_rfl),
 .inl (by kernel_rfl),
 .inl (by kernel_rfl),
 .inl (by kernel_rfl),
 .inl (by kernel_rfl),
 .inl (by kernel_rfl),
 .inl (by kernel_rfl),
 .inl (by kernel_rfl),
 .inl (by kernel_rfl),
 .inl (by kernel_rfl),
 .inl (by kernel_rfl),
 .inl (by kernel_rfl),
 .inl (by kernel_rfl),
 .inl (by kernel_rfl),
 .inl (by kernel_rfl),
 .inl (by kernel_rfl),
 .inl (by kernel_rfl),
 .inl (by kernel_rfl),
 .inr rfl,
 .inl (by kernel_rfl),
 .inl (by kernel_rfl),
 .inl (by kernel_rfl),
 .inl (by kernel_rfl),
 .inl (by kernel_rfl),
 .inl (by kernel_rfl),
 .inl (by kernel_rfl),
 .inl (by kernel_rfl),
 .inl (by kernel_rfl),
 .inl (by kernel_rfl),
 .inl (by kernel_rfl),
 .inl (by kernel_rfl),
 .inl (by kernel_rfl),
 .inr rfl,
 .inl (by kernel_rfl),
 .inl (by kernel_rfl),
 .inl (by kernel_rfl),
 .inl (by kernel_rfl),
 .inl (by kernel_rfl),
 .inl (by kernel_rfl),
 .inl (by kernel_rfl),
 .inl (by kernel_rfl),
 .inl (by kernel_rfl),
 .inl (by kernel_rfl),
 .inl (by kernel_rfl),
 .inl (by kernel_rfl),
 .inl (by kernel_rfl),
 .inl (by kernel_rfl),
 .inl (by kernel_rfl),
 .inl (by kernel_rfl),
 .inl (by kernel_rfl),
 .inl (by kernel_rfl),
 .inl (by kernel_rfl),
 .inr rfl,
 .inl (by kernel_rfl),
 .inl (by kernel_rfl),
 .inl (by kernel_rfl),
 .inl (by kernel_rfl),
 .inl (by kernel_rfl),
 .inl (by kernel_rfl),
 .inl (by kernel_rfl),
 .inl (by kernel_rfl),
 .inl (by kernel_rfl),
 .inl (by kernel_rfl),
 .inl (by kernel_rfl),
 .inr rfl,
 .inl (by kernel_rfl),
 .inl (by kernel_rfl),
 .inl (by kernel_rfl),
 .inl (by kernel_rfl),
 .inl (by kernel_rfl),
 .inl (by kernel_rfl),
 .inl (by kernel_rfl),
 .inl (by kernel_rfl),
 .inl (by kernel_rfl),
 .inl (by kernel_rfl),
 .inl (by kernel_rfl),
 .inr rfl,
 .inl (by kernel_rfl),
 .inl (by kernel_rfl),
 .inl (by kernel_rfl),
 .inl (by kernel_rfl),
 .inr rfl,
 .inl (by kernel_rfl),
 .inr rfl,
 .inl (by kernel_rfl),
 .inl (by kernel_rfl),
 .inl (by kernel_rfl),
 .inr rfl,
 .inl (by kernel_rfl),
 .inl (by kernel_rfl),
 .inl (by kernel_rfl),
 .inl (by kernel_rfl),
 .inr rfl,
 .inl (by kernel_rfl),
 .inr rfl,
 .inl (by kernel_rfl),
 .inl (by kernel_rfl),
 .inl (by kernel_rfl),
 .inl (by kernel_rfl),
 .inl (by kernel_rfl),
 .inr rfl,
 .inl (by kernel_rfl),
 .inl (by kernel_rfl),
 .inl (by kernel_rfl),
 .inl (by kernel_rfl),
 .inl (by kernel_rfl),
 .inl (by kernel_rfl),
 .inl (by kernel_rfl),
 .inl (by kernel_rfl),
 .inl (by kernel_rfl),
 .inl (by kernel_rfl),
 .inl (by kernel_rfl),
 .inl (by kernel_rfl),
 .inl (by kernel_rfl),
 .inr rfl,
 .inl (by kernel_rfl),
 .inl (by kernel_rfl),
 .inl (by kernel_rfl),
 .inl (by kernel_rfl),
 .inl (by kernel_rfl),
 .inl (by kernel_rfl),
 .inl (by kernel_rfl),
 .inl (by kernel_rfl),
 .inl (by kernel_rfl),
 .inr rfl,
 .inl (by kernel_rfl),
 .inr rfl,
 .inl (by kernel_rfl),
 .inl (by kernel_rfl),
 .inl (by kernel_rfl),
 .inl (by kernel_rfl),
 .inl (by kernel_rfl),
 .inl (by kernel_rfl),
 .inl (by kernel_rfl),
 .inl (by kernel_rfl),
 .inl (by kernel_rfl),
 .inl (by kernel_rfl),
 .inl (by kernel_rfl),
 .inl (by kernel_rfl),
 .inl (by kernel_rfl),
 .inl (by kernel_rfl),
 .inr rfl,
 .inl (by kernel_rfl),
 .inl (by kernel_rfl),
 .inl (by kernel_rfl),
 .inl (by kernel_rfl),
 .inl (by kernel_rfl),
 .inl (by kernel_rfl),
 .inl (by kernel_rfl),
 .inl (by kernel_rfl),
 .inl (by kernel_rfl),
 .inl (by kernel_rfl),
 .inl (by kernel_rfl),
 .inl (by kernel_rfl),
 .inl (by kernel_rfl),
 .inl (by kernel_rfl),
 .inl (by kernel_rfl),
 .inl (by kernel_rfl),
 .inl (by kernel_rfl),
 .inl (by kernel_rfl),
 .inl (by kernel_rfl),
 .inl (by kernel_rfl),
 .inl (by kernel_rfl),
 .inl (by kernel_rfl),
 .inr rfl,
 .inl (by kernel_rfl),
 .inl (by kernel_rfl),
 .inl (by kernel_rfl),
 .inl (by kernel_rfl),
 .inl (by kernel_rfl),
 .inl (by kernel_rfl),
 .inl (by kernel_rfl),
 .inl (by kernel_rfl),
 .inl (by kernel_rfl),
 .inl (by kernel_rfl),
 .inl (by kernel_rfl),
 .inl (by kernel_rfl),
 .inl (by kernel_rfl),
 .inl (by kernel_rfl),
 .inl (by kernel_rfl),
 .inl (by kernel_rfl),
 .inl (by kernel_rfl),
 .inl (by kernel_rfl),
 .inl (by kernel_rfl),
 .inl (by kernel_rfl),
 .inl (by kernel_rfl),
 .inl (by kernel_rfl),
 .inl (by kernel_rfl),
 .inl (by kernel_rfl),
 .inl (by kernel_rfl),
 .inl (by kernel_rfl),
 .inl (by kernel_rfl),
 .inl (by kernel_rfl),
 .inl (by kernel_rfl),
 .inr rfl,
 .inl (by kernel_rfl),
 .inl (by kernel_rfl),
 .inr rfl,
 .inl (by kernel_rfl),
 .inl (by kernel_rfl),
 .inl (by kernel_rfl),
 .inl (by kernel_rfl),
 .inl (by kernel_rfl),
 .inl (by kernel_rfl),
 .inl (by kernel_rfl),
 .inl (by kernel_rfl),
 .inl (by kernel_rfl),
 .inl (by kernel_rfl),
 .inl (by kernel_rfl),
 .inl (by kernel_rfl),
 .inl (by kernel_rfl),
 .inl (by kernel_rfl),
 .inl (by kernel_rfl),
 .inl (by kernel_rfl),
 .inl (by kernel_rfl),
 .inl (by kernel_rfl),
 .inl (by kernel_rfl),
 .inl (by kernel_rfl),
 .inl (by kernel_rfl),
 .inl (by kernel_rfl),
 .inl (by kernel_rfl),
 .inl (by kernel_rfl),
 .inl (by kernel_rfl),
 .inl (by kernel_rfl),
 .inl (by kernel_rfl),
 .inl (by kernel_rfl),
 .inl (by kernel_rfl),
 .inl (by kernel_rfl),
 .inl (by kernel_rfl),
 .inl (by kernel_rfl),
 .inl (by kernel_rfl),
 .inr rfl,
 .inr rfl,
 .inl (by kernel_rfl),
 .inl (by kernel_rfl),
 .inl (by kernel_rfl),
 .inl (by kernel_rfl),
 .inl (by kernel_rfl),
 .inl (by kernel_rfl),
 .inl (by kernel_rfl),
 .inl (by kernel_rfl),
 .inl (by kernel_rfl),
 .inl (by kernel_rfl),
 .inl (by kernel_rfl),
 .inl (by kernel_rfl),
 .inl (by kernel_rfl),
 .inl (by kernel_rfl),
 .inl (by kernel_rfl),
 .inl (by kernel_rfl),
 trivial⟩
def fns:List Nat:=[2,3,4,5,6,7,8,9,10,11,12,13,14,15,16,17,18,19,20,21,22,23,24,25,26,27,28,29,30,31,32,33,34,35,36,37,38,39,40,41,42,43,44,45,46,47,48,49,50,51,52,53,54,55,56,57,58,59,60,61,62,63,64,65,66,67,68,69,70,71,72,73,74,75,76,77,78,79,80,81,82,83,84,85,86,87,88,89,90,91,92,93,94,95,96,97,98,99,100,101,102,103,104,105,106,107,108,109,110,111,112,113,114,115,116,117,118,119,120,121,122,123,124,125,126,127,128,129,130,131,132,133,134,135,136,137,138,139,140,141,142,143,144,145,146,147,148,149,150,151,152,153,154,155,156,157,158,159,160,161,162,163,164,165,166,167,169,170,171,172,173,174,175,176,177,178,179,180,181,182,183,184,185,186,187,188,189,190,191,192,193,194,196,197,198,199,200,201,203,226]
theorem Jt:vp Tryz.prog fns:=⟨Tryz.call2,Tryz.call3,Tryz.call4,Tryz.call5,Tryz.call6,Tryz.call7,Tryz.call8,Tryz.call9,Tryz.call10,Tryz.call11,Tryz.call12,Tryz.call13,Tryz.call14,Tryz.call15,Tryz.call16,Tryz.call17,Tryz.call18,Tryz.call19,Tryz.call20,Tryz.call21,Tryz.call22,Tryz.call23,Tryz.call24,Tryz.call25,Tryz.call26,Tryz.call27,Tryz.call28,Tryz.call29,Tryz.call30,Tryz.call31,Tryz.call32,Tryz.call33,Tryz.call34,Tryz.call35,Tryz.call36,Tryz.call37,Tryz.call38,Tryz.call39,Tryz.call40,Tryz.call41,Tryz.call42,Tryz.call43,Tryz.call44,Tryz.call45,Tryz.call46,Tryz.call47,Tryz.call48,Tryz.call49,Tryz.call50,Tryz.call51,Tryz.call52,Tryz.call53,Tryz.call54,Tryz.call55,Tryz.call56,Tryz.call57,Tryz.call58,Tryz.call59,Tryz.call60,Tryz.call61,Tryz.call62,Tryz.call63,Tryz.call64,Tryz.call65,Tryz.call66,Tryz.call67,Tryz.call68,Tryz.call69,Tryz.call70,Tryz.call71,Tryz.call72,Tryz.call73,Tryz.call74,Tryz.call75,Tryz.call76,Tryz.call77,Tryz.call78,Tryz.call79,Tryz.call80,Tryz.call81,Tryz.call82,Tryz.call83,Tryz.call84,Tryz.call85,Tryz.call86,Tryz.call87,Tryz.call88,Tryz.call89,Tryz.call90,Tryz.call91,Tryz.call92,Tryz.call93,Tryz.call94,Tryz.call95,Tryz.call96,Tryz.call97,Tryz.call98,Tryz.call99,Tryz.call100,Tryz.call101,Tryz.call102,Tryz.call103,Tryz.call104,Tryz.call105,Tryz.call106,Tryz.call107,Tryz.call108,Tryz.call109,Tryz.call110,Tryz.call111,Tryz.call112,Tryz.call113,Tryz.call114,Tryz.call115,Tryz.call116,Tryz.call117,Tryz.call118,Tryz.call119,Tryz.call120,Tryz.call121,Tryz.call122,Tryz.call123,Tryz.call124,Tryz.call125,Tryz.call126,Tryz.call127,Tryz.call128,Tryz.call129,Tryz.call130,Tryz.call131,Tryz.call132,Tryz.call133,Tryz.call134,Tryz.call135,Tryz.call136,Tryz.call137,Tryz.call138,Tryz.call139,Tryz.call140,Tryz.call141,Tryz.call142,Tryz.call143,Tryz.call144,Tryz.call145,Tryz.call146,Tryz.call147,Tryz.call148,Tryz.call149,Tryz.call150,Tryz.call151,Tryz.call152,Tryz.call153,Tryz.call154,Tryz.call155,Tryz.call156,Tryz.call157,Tryz.call158,Tryz.call159,Tryz.call160,Tryz.call161,Tryz.call162,Tryz.call163,Tryz.call164,Tryz.call165,Tryz.call166,Tryz.call167,Tryz.call169,Tryz.call170,Tryz.call171,Tryz.call172,Tryz.call173,Tryz.call174,Tryz.call175,Tryz.call176,Tryz.call177,Tryz.call178,Tryz.call179,Tryz.call180,Tryz.call181,Tryz.call182,Tryz.call183,Tryz.call184,Tryz.call185,Tryz.call186,Tryz.call187,Tryz.call188,Tryz.call189,Tryz.call190,Tryz.call191,Tryz.call192,Tryz.call193,Tryz.call194,Tryz.call196,Tryz.call197,Tryz.call198,Tryz.call199,Tryz.call200,Tryz.call201,Tryz.call203,Tryz.call226,trivial⟩
theorem Fh:Tryz.prog.follows .mixedOrders=true:=by kernel_rfl
noncomputable abbrev cx (n k:Nat):dI:=⟨Tryz.prog,tt,fns,n,k,false,none⟩
theorem B0 (n k:Nat):CtxOk (cx n k):=⟨IT,pZ fns Jt,Fh⟩
theorem ad {f:FuncId} {fn:Func} (hf:Tryz.prog.funcs[f]? = some fn) (k:Nat) {args:List V} {H:List O} {Q:V->List O->Prop} (hb:fn.body=some (fn.body.getD .skip)) (hl:args.length<=fn.ntmps)
 (h:Ix (cx fn.ntmps k) fn (fn.body.getD .skip) args H Q):ACall Tryz.prog f k args H Q :=
 xR (B0 fn.ntmps k) hf hb rfl rfl hl h
abbrev fI (n:Int):V:=.int .i64 n
end
section
variable {Q:V->List O->Prop}
theorem ff {x:Tr Rw} (h:Q (.int .i64 ((x.ht:Nat):Int)) []):ACall Tryz.prog 188 0 [.im (cY fR x)] [] Q:=by
 refine ad Tryz.func188 0 rfl (aA rfl) ?_;cases x with
 | nil =>
  conv=>whnf
  exact⟨[],rfl,h⟩
 | node k v a b =>
  conv=>whnf
  exact⟨[],rfl,h⟩
theorem dr {k:List UInt8} {v:Rw} {xa xb a b:Tr Rw} (ha:a.ht<4611686018427387904) (hb:b.ht<4611686018427387904) (h:Q (.im (cY fR (.node k v a b))) []) :
 ACall Tryz.prog 189 0 [.im (cY fR (.node k v xa xb)),.im (cY fR a),.im (cY fR b)] [] Q:=by
 refine ACall.sel (ACall.im (ACall.frz 0 (ad Tryz.func189 0 rfl (aA rfl) ?_)))
 conv=>whnf
 refine⟨[0,1,2,3,4,5,6,7,8,10,14,15,9,11,12,13,16,17,18],by kernel_rfl,by kernel_rfl,?_⟩
 conv=>whnf
 refine .call [] 0 ⟨rfl,rfl,rfl⟩ (ff ?_)
 repeat (refine⟨rfl,?_⟩)
 conv=>whnf
 refine .call [] 0 ⟨rfl,rfl,rfl⟩ (ff ?_)
 repeat (refine⟨rfl,?_⟩)
 conv=>whnf
 refine⟨[0],rfl,rfl,rfl,[],rfl,?_⟩;have hw:IntKind.i64.wrap (1+(if((b.ht:Nat):Int)>((a.ht:Nat):Int)then((b.ht:Nat):Int)else((a.ht:Nat):Int)))=((Tr.ht (.node k v a b):Nat):Int):=by
  rw[IntKind.wrap_i64];simp only[Tr.ht];split<;>omega
 show Q (.im (.ip [.str k,fR v,.int .i64 (IntKind.i64.wrap (1+(if((b.ht:Nat):Int)>((a.ht:Nat):Int)then((b.ht:Nat):Int)else((a.ht:Nat):Int)))),.im (cY fR a),.im (cY fR b)] 0)) []
 rw[hw];exact h
theorem jA {k:List UInt8} {v:Rw} {xa xb a b:Tr Rw} (ha:a.ht<2305843009213693952) (hb:b.ht<2305843009213693952) (h:Q (.im (cY fR (kO k v a b))) []) :
 ACall Tryz.prog 173 0 [.im (cY fR (.node k v xa xb)),.im (cY fR a),.im (cY fR b)] [] Q:=by
 refine ad Tryz.func173 0 rfl (aA rfl) ?_
 conv=>whnf
 refine .call [] 0 ⟨rfl,rfl,rfl⟩ (ff ?_)
 conv=>whnf
 refine .call [] 0 ⟨rfl,rfl,rfl⟩ (ff ?_)
 conv=>whnf
 have hw:IntKind.i64.wrap (((a.ht:Nat):Int)-((b.ht:Nat):Int))=((a.ht:Nat):Int)-((b.ht:Nat):Int):=by rw[IntKind.wrap_i64]; omega
 refine⟨[0,1,2,3,4,5,6,8,9,10,11,7,12,13,14,15],by kernel_rfl,by kernel_rfl,?_⟩
 conv=>whnf
 refine ac (fun c=>?_) (fun c=>?_)<;>try rw[c]<;>conv=>whnf
 . have c' := aB c;rw[hw]at c';cases a with
   | nil=>exfalso; simp only[Tr.ht]at c'; omega
   | node ak av aa ab =>
   have hm:(Tr.node ak av aa ab).ht=1+max aa.ht ab.ht:=rfl;unfold kO at h;rw[if_pos (by omega)]at h
   dsimp only at h
   conv=>whnf
   refine .call [] 0 ⟨rfl,rfl,rfl⟩ (ff ?_)
   repeat (refine⟨rfl,?_⟩)
   conv=>whnf
   refine .call [] 0 ⟨rfl,rfl,rfl⟩ (ff ?_)
   repeat (refine⟨rfl,?_⟩)
   conv=>whnf
   refine ac (fun c2=>?_) (fun c2=>?_)<;>try rw[c2]<;>conv=>whnf
   . have c2' := aB c2;rw[if_pos (by omega)]at h
     refine⟨[0,1,2,3,4,5,6,7,8,9,10,11,12,13],by kernel_rfl,by kernel_rfl,?_⟩
     conv=>whnf
     refine .call [] 0 ⟨rfl,rfl,rfl⟩ (dr (by omega) (by omega) ?_)
     repeat (refine⟨rfl,?_⟩)
     conv=>whnf
     refine .call [] 0 ⟨rfl,rfl,rfl⟩ (dr (by omega) (by simp only[Tr.ht]; omega) ?_)
     repeat (refine⟨rfl,?_⟩)
     conv=>whnf
     exact⟨[],rfl,h⟩
   . have c2' := aG c2;rw[if_neg (by omega)]at h
     rw[c]
     conv=>whnf
     cases ab with
     | nil=>exfalso; simp only[Tr.ht]at c2'; omega
     | node mk mv ma mb =>
     have hm2:(Tr.node mk mv ma mb).ht=1+max ma.ht mb.ht:=rfl;refine⟨[0,1,2,3,4,5,6,7,8,9,11,12,13,14,15,16,10,17,18,19],by kernel_rfl,by kernel_rfl,?_⟩
     conv=>whnf
     refine .call [] 0 ⟨rfl,rfl,rfl⟩ (dr (by omega) (by omega) ?_)
     repeat (refine⟨rfl,?_⟩)
     conv=>whnf
     refine .call [] 0 ⟨rfl,rfl,rfl⟩ (dr (by omega) (by omega) ?_)
     repeat (refine⟨rfl,?_⟩)
     conv=>whnf
     refine .call [] 0 ⟨rfl,rfl,rfl⟩ (dr (by simp only[Tr.ht]; omega) (by simp only[Tr.ht]; omega) ?_)
     repeat (refine⟨rfl,?_⟩)
     conv=>whnf
     exact⟨[],rfl,h⟩
 . have c' := aG c;rw[hw]at c';rw[c]
   conv=>whnf
   refine⟨[0,1,2,3,4,5,6,8,9,10,11,7,12,13,14,15],by kernel_rfl,by kernel_rfl,?_⟩
   conv=>whnf
   unfold kO at h;rw[if_neg (by omega)]at h
   refine ac (fun c3=>?_) (fun c3=>?_)<;>try rw[c3]<;>conv=>whnf
   . have c3' := aB c3;rw[hw]at c3';cases b with
     | nil=>exfalso; simp only[Tr.ht]at c3'; omega
     | node bk bv ba bb =>
     have hm:(Tr.node bk bv ba bb).ht=1+max ba.ht bb.ht:=rfl;rw[if_pos (by omega)]at h
     dsimp only at h
     conv=>whnf
     refine .call [] 0 ⟨rfl,rfl,rfl⟩ (ff ?_)
     repeat (refine⟨rfl,?_⟩)
     conv=>whnf
     refine .call [] 0 ⟨rfl,rfl,rfl⟩ (ff ?_)
     repeat (refine⟨rfl,?_⟩)
     conv=>whnf
     refine ac (fun c2=>?_) (fun c2=>?_)<;>try rw[c2]<;>conv=>whnf
     . have c2' := aB c2;rw[if_pos (by omega)]at h
       refine⟨[0,1,2,3,4,5,6,8,9,10,11,7,12,13],by kernel_rfl,by kernel_rfl,?_⟩
       conv=>whnf
       refine .call [] 0 ⟨rfl,rfl,rfl⟩ (dr (by omega) (by omega) ?_)
       repeat (refine⟨rfl,?_⟩)
       conv=>whnf
       refine .call [] 0 ⟨rfl,rfl,rfl⟩ (dr (by simp only[Tr.ht]; omega) (by omega) ?_)
       repeat (refine⟨rfl,?_⟩)
       conv=>whnf
       exact⟨[],rfl,h⟩
     . have c2' := aG c2;rw[if_neg (by omega)]at h
       rw[c3]
       conv=>whnf
       cases ba with
       | nil=>exfalso; simp only[Tr.ht]at c2'; omega
       | node mk mv ma mb =>
       have hm2:(Tr.node mk mv ma mb).ht=1+max ma.ht mb.ht:=rfl;refine⟨[0,1,2,3,4,5,6,8,9,10,11,12,13,14,15,16,7,17,18,19],by kernel_rfl,by kernel_rfl,?_⟩
       conv=>whnf
       refine .call [] 0 ⟨rfl,rfl,rfl⟩ (dr (by omega) (by omega) ?_)
       repeat (refine⟨rfl,?_⟩)
       conv=>whnf
       refine .call [] 0 ⟨rfl,rfl,rfl⟩ (dr (by omega) (by omega) ?_)
       repeat (refine⟨rfl,?_⟩)
       conv=>whnf
       refine .call [] 0 ⟨rfl,rfl,rfl⟩ (dr (by simp only[Tr.ht]; omega) (by simp only[Tr.ht]; omega) ?_)
       repeat (refine⟨rfl,?_⟩)
       conv=>whnf
       exact⟨[],rfl,h⟩
   . have c3' := aG c3;rw[hw]at c3';rw[if_neg (by omega)]at h
     rw[c3]
     conv=>whnf
     refine .call [] 0 ⟨rfl,rfl,rfl⟩ (dr (by omega) (by omega) ?_)
     conv=>whnf
     exact⟨[],rfl,h⟩
theorem Dp {key:List UInt8} {J:List (List V)->List O->Prop} {S:List O->Prop} {ks:List Pl} {L:List (List V)} (hy:vI Tryz.prog ks J S L):∀(t:Tr Rw) (pre post:List (List V)) (B:List Nat) {Q:V->List O->Prop},
 pre++(cM fR (bE key t)++post)=L->(∀B', Q (.bool true) [.res (cu (J (pre++cM fR (bE key t))) ks B') B'])->(∀B', Q (.bool false) [.res (cu S ks B') B']) ->
 ACall Tryz.prog 106 1 [.im (cY fR t),.str key,.yld 0] [.res (cu (J pre) ks B) B] Q:=by
 intro t;induction t with
 | nil =>
  intro pre post B Q hL h1 h2;refine ad Tryz.func106 1 rfl (aA rfl) ?_
  conv=>whnf
  simp only[bE,cM,List.map_nil,List.append_nil]at h1;exact⟨[0],rfl,h1 B⟩
 | node k v a b iha ihb =>
  intro pre post B Q hL h1 h2;refine ad Tryz.func106 1 rfl (aA rfl) ?_
  conv=>whnf
  refine⟨[0,1,2,3,4,5,6,7,8,9,10,11,12,13,14,15,16,17,18,19,20,21,22,23,24,25,26,27,28],by kernel_rfl,by kernel_rfl,?_⟩
  conv=>whnf
  refine ac (fun c=>?_) (fun c=>?_)<;>try rw[c]<;>conv=>whnf
  . have e:bE key (.node k v a b)=bE key a++((k,v)::bE key b):=by simp[bE,DD,c]
    rw[e]at hL h1;simp only[cM,List.map_append,List.map_cons,List.append_assoc,List.cons_append]at hL h1;refine .call [0] 1 ⟨rfl,rfl,rfl⟩ (iha pre ([.str k,fR v]::(cM fR (bE key b)++post)) B (by simpa [cM]using hL) (fun B1=>?_) (fun B1=>?_))
    . repeat (refine⟨rfl,?_⟩)
      conv=>whnf
      refine .call [0] 1 ⟨rfl,rfl,rfl⟩ (AYield.mono (hy (pre++cM fR (bE key a)) [.str k,fR v] (cM fR (bE key b)++post) B1 (by simpa [cM]using hL)) ?_)
      rintro r H' ⟨B2,⟨rfl,rfl⟩ | ⟨rfl,rfl⟩⟩
      . repeat (refine⟨rfl,?_⟩)
        conv=>whnf
        refine .call [0] 1 ⟨rfl,rfl,rfl⟩ (ihb (pre++cM fR (bE key a) ++ [[.str k,fR v]]) post B2 (by simpa [cM]using hL) (fun B3=>?_) (fun B3=>?_))
        . conv=>whnf
          exact⟨[0],rfl,(congrArg (fun l=>Q (.bool true) [.res (cu (J l) ks B3) B3]) (by simp[cM])).mp (h1 B3)⟩
        . conv=>whnf
          exact⟨[0],rfl,h2 B3⟩
      . repeat (refine⟨rfl,?_⟩)
        conv=>whnf
        exact⟨[0],rfl,h2 B2⟩
    . repeat (refine⟨rfl,?_⟩)
      conv=>whnf
      exact⟨[0],rfl,h2 B1⟩
  . have e:bE key (.node k v a b)=bE key b:=by simp[bE,DD,c]
    rw[e]at hL h1;refine .call [0] 1 ⟨rfl,rfl,rfl⟩ (ihb pre post B hL (fun B3=>?_) (fun B3=>?_))
    . conv=>whnf
      exact⟨[0],rfl,h1 B3⟩
    . conv=>whnf
      exact⟨[0],rfl,h2 B3⟩
theorem oq {key:List UInt8} {v0:Rw}:∀(t:Tr Rw),t.ht<1152921504606846976 -> ∀ {Q:V->List O->Prop},Q (.im (cY fR (iM key v0 t))) []->ACall Tryz.prog 143 0 [.im (cY fR t),.str key,fR v0] [] Q:=by
 intro t;induction t with
 | nil =>
  intro hh Q h;refine ACall.im (ACall.sub (ACall.sel (ACall.frz 0 (ad Tryz.func143 0 rfl (aA rfl) ?_))))
  conv=>whnf
  refine⟨[0],rfl,rfl,[],rfl,_,[],VSub.ip (cs' := [.str key,fR v0,.int .i64 1,.im .nilp,.im .nilp]) (.cons (.refl _) (.cons (.refl _) (.cons (.refl _) (.cons (.im rfl) (.cons (.im rfl) .nil))))),.nil,rfl,h⟩
 | node k v a b iha ihb =>
  intro hh Q h;have hm:(Tr.node k v a b).ht=1+max a.ht b.ht:=rfl;have h1:=sE key v0 a;have h2:=sE key v0 b;by_cases c1:Op.bytesLess key k=true
  . simp only[iM,if_pos c1]at h;refine ad Tryz.func143 0 rfl (aA rfl) ?_
    conv=>whnf
    rw[c1]
    conv=>whnf
    refine⟨[0,1,2,3,4,5,6,8,9,10,11,7,12,13],by kernel_rfl,by kernel_rfl,?_⟩
    conv=>whnf
    refine .call [] 0 ⟨rfl,rfl,rfl⟩ (iha (by omega) ?_)
    repeat (refine⟨rfl,?_⟩)
    conv=>whnf
    refine .call [] 0 ⟨rfl,rfl,rfl⟩ (jA (by omega) (by omega) ?_)
    repeat (refine⟨rfl,?_⟩)
    conv=>whnf
    exact⟨[],rfl,h⟩
  . simp only[iM,if_neg c1]at h;have c1' : Op.bytesLess key k=false:=by simpa using c1
    by_cases c2:Op.bytesLess k key=true
    . simp only[if_pos c2]at h;have hne:decide (key=k)=false:=by
       simp only[decide_eq_false_iff_not];intro e;rw[e]at c2 c1';rw[c2]at c1'; cases c1'
      refine ad Tryz.func143 0 rfl (aA rfl) ?_
      conv=>whnf
      rw[c1']
      conv=>whnf
      rw[c1', hne]
      conv=>whnf
      refine⟨[0,1,2,3,4,5,6,7,8,9,10,11,12,13],by kernel_rfl,by kernel_rfl,?_⟩
      conv=>whnf
      refine .call [] 0 ⟨rfl,rfl,rfl⟩ (ihb (by omega) ?_)
      repeat (refine⟨rfl,?_⟩)
      conv=>whnf
      refine .call [] 0 ⟨rfl,rfl,rfl⟩ (jA (by omega) (by omega) ?_)
      repeat (refine⟨rfl,?_⟩)
      conv=>whnf
      exact⟨[],rfl,h⟩
    . simp only[if_neg c2]at h;have c2' : Op.bytesLess k key=false:=by simpa using c2
      have he:key=k:=cz c1' c2';subst he;refine ACall.sel (ACall.im (ACall.frz 0 (ad Tryz.func143 0 rfl (aA rfl) ?_)))
      conv=>whnf
      rw[c1']
      conv=>whnf
      rw[c1', show decide (key=key)=true by simp]
      conv=>whnf
      refine⟨[0,1,2,3,4,5,6,7,8,9,10,11,12,13,14,15,16],by kernel_rfl,by kernel_rfl,?_⟩
      conv=>whnf
      exact⟨[0],rfl,rfl,rfl,[],rfl,h⟩
theorem A2 {k:List UInt8} {v:Rw} {a b:Tr Rw} (h:∀b', Q (.im (cY fR (.node (firstT (k,v) a).1 (firstT (k,v) a).2 .nil b'))) []):ACall Tryz.prog 198 0 [.im (cY fR (.node k v a b))] [] Q:=by
 refine ad Tryz.func198 0 rfl (aA rfl) ?_
 conv=>whnf
 refine⟨⟨[0],fun n vs H=>H = [] /\ ∃k' v' a' b', vs = [.im (cY fR (.node k' v' a' b'))]/\firstT (k', v') a'=firstT (k,v) a/\n=a'.size,.at (a.size) ⟨rfl,k,v,a,b,rfl,rfl,rfl⟩,?_⟩⟩
 rintro n vs H ⟨rfl,k', v', a', b', rfl,he,rfl⟩;cases a' with
 | nil =>
  conv=>whnf
  simp only[firstT]at he;refine⟨[],rfl,?_⟩;have:=h b';rw[<-he]at this;exact this
 | node k2 v2 a2 b2 =>
  conv=>whnf
  exact .go [] rfl a2.size (by simp only[Tr.size]; omega) ⟨rfl,k2,v2,a2,b2,rfl,he,rfl⟩
theorem DW:∀(t:Tr Rw) (key:List UInt8),t.ht<1152921504606846976 -> ∀ {Q:V->List O->Prop},Q (.im (cY fR (kT key t))) []->ACall Tryz.prog 190 0 [.im (cY fR t),.str key] [] Q:=by
 intro t;induction t with
 | nil =>
  intro key hh Q h;refine ACall.im (ad Tryz.func190 0 rfl (aA rfl) ?_)
  conv=>whnf
  exact⟨[],rfl,rfl,h⟩
 | node k v a b iha ihb =>
  intro key hh Q h;have hm:(Tr.node k v a b).ht=1+max a.ht b.ht:=rfl;have h1:=sD a key;have h2:=fun key=>sD b key
  refine ad Tryz.func190 0 rfl (aA rfl) ?_;unfold kT at h;by_cases c1:Op.bytesLess key k=true
  . rw[if_pos c1]at h
    conv=>whnf
    rw[c1]
    conv=>whnf
    refine⟨[0,1,2,3,4,5,7,8,9,10,6,11,12],by kernel_rfl,by kernel_rfl,?_⟩
    conv=>whnf
    refine .call [] 0 ⟨rfl,rfl,rfl⟩ (iha key (by omega) ?_)
    repeat (refine⟨rfl,?_⟩)
    conv=>whnf
    refine .call [] 0 ⟨rfl,rfl,rfl⟩ (jA (by omega) (by omega) ?_)
    repeat (refine⟨rfl,?_⟩)
    conv=>whnf
    exact⟨[],rfl,h⟩
  . rw[if_neg c1]at h;have c1' : Op.bytesLess key k=false:=by simpa using c1
    conv=>whnf
    rw[c1']
    conv=>whnf
    by_cases c2:Op.bytesLess k key=true
    . rw[if_pos c2]at h;have hne:decide (key=k)=false:=decide_eq_false (gc c2).symm;rw[c1', hne]
      conv=>whnf
      refine⟨[0,1,2,3,4,5,6,7,8,9,10,11,12],by kernel_rfl,by kernel_rfl,?_⟩
      conv=>whnf
      refine .call [] 0 ⟨rfl,rfl,rfl⟩ (ihb key (by omega) ?_)
      repeat (refine⟨rfl,?_⟩)
      conv=>whnf
      have:=h2 key;refine .call [] 0 ⟨rfl,rfl,rfl⟩ (jA (by omega) (by omega) ?_)
      repeat (refine⟨rfl,?_⟩)
      conv=>whnf
      exact⟨[],rfl,h⟩
    . rw[if_neg c2]at h;have c2' : Op.bytesLess k key=false:=by simpa using c2
      have he:key=k:=cz c1' c2';rw[c1', show decide (key=k)=true by simp[he]]
      conv=>whnf
      cases a with
      | nil =>
       conv=>whnf
       exact⟨[],rfl,h⟩
      | node ak av aa ab =>
       conv=>whnf
       cases b with
       | nil =>
        conv=>whnf
        exact⟨[],rfl,h⟩
       | node bk bv ba bb =>
        simp only at h
        conv=>whnf
        refine .call [] 0 ⟨rfl,rfl,rfl⟩ (A2 fun b' => ?_)
        conv=>whnf
        refine⟨[0,1,2,3,4,5,6,7,8,9,10,11,12,13,14,15],by kernel_rfl,by kernel_rfl,?_⟩
        conv=>whnf
        refine .call [] 0 ⟨rfl,rfl,rfl⟩ (ihb _ (by omega) ?_)
        repeat (refine⟨rfl,?_⟩)
        conv=>whnf
        have:=h2 (firstT (bk,bv) ba).1;refine .call [] 0 ⟨rfl,rfl,rfl⟩ (jA (by omega) (by omega) ?_)
        repeat (refine⟨rfl,?_⟩)
        conv=>whnf
        exact⟨[],rfl,h⟩
abbrev ee (t:Tr Rw) (n:Int):O:=.cells [.im (cY fR t),.int .i64 n]
theorem jE {t:Tr Rw} {n:Int} {key:List UInt8} (h:Q (.im (cY fR (dE key t))) [ee t n]):ACall Tryz.prog 142 1 [.ptr 0 0,.str key] [ee t n] Q:=by
 refine ad Tryz.func142 1 rfl (aA rfl) ?_
 conv=>whnf
 refine⟨⟨[1,5],fun m vs H=>H = [ee t n] /\ ∃x,vs = [.str key,.im (cY fR x)]/\dE key x=dE key t/\m=x.size,.at (t.size) ⟨rfl,t,rfl,rfl,rfl⟩,?_⟩⟩
 rintro m vs H ⟨rfl,x,rfl,he,rfl⟩;cases x with
 | nil =>
  conv=>whnf
  rw[<-he]at h;exact⟨[0],rfl,h⟩
 | node k v a b =>
  conv=>whnf
  by_cases ck:k=key
  . rw[show decide (k=key)=true by simp[ck]]
    conv=>whnf
    simp only[dE,if_pos ck]at he;rw[<-he]at h;exact⟨[0],rfl,h⟩
  . rw[show decide (k=key)=false by simp[ck]]
    simp only[dE,if_neg ck]at he
    conv=>whnf
    refine ac (fun c=>?_) (fun c=>?_)<;>try rw[c]<;>conv=>whnf
    . rw[if_pos c]at he;exact .go [0] rfl a.size (by simp only[Tr.size]; omega) ⟨rfl,a,rfl,he,rfl⟩
    . rw[if_neg (by simp[c])]at he
      exact .go [0] rfl b.size (by simp only[Tr.size]; omega) ⟨rfl,b,rfl,he,rfl⟩
theorem xA {t:Tr Rw} {n:Int} {key:List UInt8} {v:Rw} (ht:t.ht<1152921504606846976) (h:Q (.bool (!(dE key t).isNil)) [ee (iM key v t) (if(dE key t).isNil then IntKind.i64.wrap (n+1)else n)]) :
 ACall Tryz.prog 103 1 [.ptr 0 0,.str key,fR v] [ee t n] Q:=by
 refine ad Tryz.func103 1 rfl (aA rfl) ?_
 conv=>whnf
 refine .call [0] 1 ⟨rfl,rfl,rfl⟩ (jE ?_)
 conv=>whnf
 cases hf:dE key t with
 | nil =>
  rw[hf]at h
  conv=>whnf
  refine .call [] 0 ⟨rfl,rfl,rfl⟩ (oq t ht ?_)
  conv=>whnf
  exact⟨[0],rfl,h⟩
 | node k w a b =>
  rw[hf]at h
  conv=>whnf
  refine .call [] 0 ⟨rfl,rfl,rfl⟩ (oq t ht ?_)
  conv=>whnf
  exact⟨[0],rfl,h⟩
theorem D8 {t:Tr Rw} {n:Int} {key:List UInt8} (ht:t.ht<1152921504606846976) (h:Q (.bool (!(dE key t).isNil)) [ee (if(dE key t).isNil then t else kT key t) (if(dE key t).isNil then n else IntKind.i64.wrap (n-1))]) :
 ACall Tryz.prog 177 1 [.ptr 0 0,.str key] [ee t n] Q:=by
 refine ad Tryz.func177 1 rfl (aA rfl) ?_
 conv=>whnf
 refine .call [0] 1 ⟨rfl,rfl,rfl⟩ (jE ?_)
 conv=>whnf
 cases hf:dE key t with
 | nil =>
  rw[hf]at h
  conv=>whnf
  exact⟨[0],rfl,h⟩
 | node k w a b =>
  rw[hf]at h
  conv=>whnf
  refine .call [] 0 ⟨rfl,rfl,rfl⟩ (DW t key ht ?_)
  conv=>whnf
  exact⟨[0],rfl,h⟩
theorem xx {t:Tr Rw} {n:Int} {key:List UInt8} (hf:dE key t = .nil) (h:Q (.tup [.nils,.bool false]) [ee t n]):ACall Tryz.prog 176 1 [.ptr 0 0,.str key] [ee t n] Q:=by
 refine ad Tryz.func176 1 rfl (aA rfl) ?_
 conv=>whnf
 refine .call [0] 1 ⟨rfl,rfl,rfl⟩ (jE ?_);rw[hf]
 conv=>whnf
 exact⟨[0],rfl,h⟩
theorem xy {t:Tr Rw} {n:Int} {key:List UInt8} {k:List UInt8} {v:Rw} {a b:Tr Rw} (hf:dE key t = .node k v a b) (h:Q (.tup [fR v,.bool true]) [ee t n]):ACall Tryz.prog 176 1 [.ptr 0 0,.str key] [ee t n] Q:=by
 refine ad Tryz.func176 1 rfl (aA rfl) ?_
 conv=>whnf
 refine .call [0] 1 ⟨rfl,rfl,rfl⟩ (jE ?_);rw[hf]
 conv=>whnf
 exact⟨[0],rfl,h⟩
def ug (s:List UInt8) (f:Bool) (e:Int):O:=.cells [.sl 1 (bs s) f,.int .i64 e]
theorem nD (s:List UInt8) (n:Nat):List.take n (bs s)=bs (s.take n):=by simp[bs,List.map_take]
theorem BX (s:List UInt8) (n:Nat):List.drop n (bs s)=bs (s.drop n):=by simp[bs,List.map_drop]
theorem mL (s:List UInt8) (n:Nat) (f:Bool) (e:Int):O.cells [.sl 1 (List.drop n (bs s)) f,.int .i64 e]=ug (s.drop n) f e:=by rw[BX]; rfl
theorem bw {n:Int} (h:-9223372036854775808<=n/\n<=9223372036854775807):IntKind.i64.wrap n=n:=by rw[IntKind.wrap_i64]; omega
theorem vj {n:Nat} (h:n<=9223372036854775807):IntKind.i64.wrap (n:Int)=(n:Int):=by rw[IntKind.wrap_i64]; omega
def Hb (s:List UInt8) (e:Int):Int:=if e=0/\s ≠ []then 2 else e
def IN (s:List UInt8) (f:Bool) (m:Nat) (ws:List V) (H:List O):Prop :=
 ∃(i N:Nat),ws = [.sl 1 (bs s) f,.int .u64 (N:Int),.int .u64 (IntKind.u64.wrap ((128 ^ i:Nat):Int)),fI i]/\H = []/\i<=10/\i<=s.length/\N<128 ^ i/\eA (10-i) i N (s.drop i)=dL s/\m=10-i
theorem FG {i:Nat} (h:i<=9):128 ^ i<=9223372036854775808:=by
 obtain rfl | rfl | rfl | rfl | rfl | rfl | rfl | rfl | rfl | rfl:i=0\/i=1\/i=2\/i=3\/i=4\/i=5\/i=6\/i=7\/i=8\/i=9:=by omega
 all_goals decide
set_option maxRecDepth 8000 in
theorem ru {s:List UInt8} {f:Bool} (h0:∀k:Nat,(dL s).2.2=0->k<=s.length->(dL s).2.1=s.drop k->k<=10->Q (.tup [.int .u64 (dL s).1,fI k,fI 0]) [])
 (h1:(dL s).2.2≠0->Q (.tup [.int .u64 0,fI 0,fI (dL s).2.2]) []):ACall Tryz.prog 150 0 [.sl 1 (bs s) f] [] Q:=by
 refine ad Tryz.func150 0 rfl (aA rfl) ?_
 conv=>whnf
 refine⟨⟨[0,5,6,7],IN s f,.at 10 ⟨0,0,rfl,rfl,by omega,by omega,by simp,rfl,rfl⟩,?_⟩⟩
 rintro m ws H ⟨i,N,rfl,rfl,hi,his,hN,hq,rfl⟩;have hl:=al s
 conv=>whnf
 refine ac (fun c=>?_) (fun c=>?_)<;>try rw[c]<;>conv=>whnf
 rotate_left
 focus
  have c' := aG c;have:i=10:=by omega
  subst this;rw[show eA (10-10) 10 N (s.drop 10)=(0,[],2)from rfl]at hq
  have:=h1 (by rw[<-hq]; decide)
  rw[<-hq]at this;exact⟨[],rfl,this⟩
 have c' := aB c;obtain⟨g,hg⟩:∃g,10-i=g+1:=⟨9-i,by omega⟩
 rw[hg]at hq;refine ac (fun c2=>?_) (fun c2=>?_)<;>try rw[c2]<;>conv=>whnf
 focus
  have c2' := aB c2;rw[List.drop_eq_nil_of_le (by omega),show eA (g+1) i N []=(0,[],4)from rfl]at hq
  have:=h1 (by rw[<-hq]; decide)
  rw[<-hq]at this;exact⟨[],rfl,this⟩
 have c2' := aG c2;have hlt:i<s.length:=by omega
 have hget:s[i]? = some s[i]:=aS hlt;rw[List.drop_eq_getElem_cons hlt]at hq;generalize s[i]=b at *;have hbg:(bs s)[i]? = some [V.int .u8 b.toNat]:=by simp[bs,hget]
 refine⟨_,⟨by omega,hbg⟩,?_⟩
 conv=>whnf
 refine⟨by decide,?_⟩
 conv=>whnf
 have hbl:=b.toNat_lt;have hmod:IntKind.u64.wrap (Int.tmod (b.toNat:Int) 128)=((b.toNat % 128:Nat):Int):=by
  rw[show Int.tmod (b.toNat:Int) 128=((b.toNat % 128:Nat):Int)from rfl,aN]; omega
 rw[hmod];unfold eA at hq;have bad:(0,([]:List UInt8),(2:Int))=dL s->Q (.tup [.int .u64 0,fI 0,fI 2]) []:=fun e=>by
  have:=h1 (by rw[<-e]; decide)
  rw[<-e]at this;exact this
 by_cases hbad:i=9/\1<b.toNat % 128
 . rw[if_pos hbad]at hq;rw[show decide ((i:Int)=9)=true from decide_eq_true (by omega)]
   conv=>whnf
   rw[show decide ((1:Int)<((b.toNat % 128:Nat):Int))=true from decide_eq_true (by omega)]
   conv=>whnf
   exact⟨[],rfl,bad hq⟩
 rw[if_neg hbad]at hq;have hpw:=FG (i:=i) (by omega)
 have hcast:((N:Int)+((b.toNat % 128:Nat):Int)*128 ^ i)=((N+b.toNat % 128*128 ^ i:Nat):Int):=by
  rw[Int.natCast_add,Int.natCast_mul,Int.natCast_pow]; rfl
 rw[hcast]at hq;have hlt2:N+b.toNat % 128*128 ^ i<128 ^ (i+1):=by
  rw[Nat.pow_succ];have:b.toNat % 128<=127:=by omega
  have:=Nat.mul_le_mul_right (128 ^ i) this;omega
 have hb64:N+b.toNat % 128*128 ^ i<18446744073709551616:=by
  by_cases h9:i=9
  . have:b.toNat % 128<=1:=by omega
    have:=Nat.mul_le_mul_right (128 ^ i) this;omega
  . have:=FG (i:=i+1) (by omega)
    omega
 have hw1:IntKind.u64.wrap ((128 ^ i:Nat):Int)=((128 ^ i:Nat):Int):=by rw[aN]; omega
 have hstep:IntKind.u64.wrap ((N:Int)+IntKind.u64.wrap (((b.toNat % 128:Nat):Int)*IntKind.u64.wrap ((128 ^ i:Nat):Int)))=((N+b.toNat % 128*128 ^ i:Nat):Int):=by
  rw[hw1,<-Int.natCast_mul,aN,aN];generalize b.toNat % 128*128 ^ i=z at *;omega
 have hat:IntKind.u64.wrap (IntKind.u64.wrap ((128 ^ i:Nat):Int)*128)=IntKind.u64.wrap ((128 ^ (i+1):Nat):Int):=by
  rw[hw1,Nat.pow_succ,Int.natCast_mul]; rfl
 have hi1:IntKind.i64.wrap ((i:Int)+1)=((i+1:Nat):Int):=by rw[bw (by omega)]; omega
 have fin:¬b.toNat<128->jo 0 (10-i) (IN s f) [.sl 1 (bs s) f,.int .u64 (IntKind.u64.wrap ((N:Int)+IntKind.u64.wrap (((b.toNat % 128:Nat):Int)*IntKind.u64.wrap ((128 ^ i:Nat):Int)))),.int .u64 (IntKind.u64.wrap (IntKind.u64.wrap ((128 ^ i:Nat):Int)*128)),.int .i64 (IntKind.i64.wrap ((i:Int)+1))] []:=fun hb=>by
  rw[if_neg hb]at hq;rw[hstep,hat,hi1];exact .go [] rfl (10-(i+1)) (by omega) ⟨i+1,N+b.toNat % 128*128 ^ i,rfl,rfl,by omega,by omega,hlt2,by rw[<-hq]; congr 1; omega,rfl⟩
 have good:dL s=(((N+b.toNat % 128*128 ^ i:Nat):Int),s.drop (i+1),0)->Q (.tup [.int .u64 (IntKind.u64.wrap ((N:Int)+IntKind.u64.wrap (((b.toNat % 128:Nat):Int)*IntKind.u64.wrap ((128 ^ i:Nat):Int)))),.int .i64 (IntKind.i64.wrap ((i:Int)+1)),fI 0]) []:=fun e=>by
  have:=h0 (i+1) (by rw[e]) (by omega) (by rw[e]) (by omega)
  rw[e]at this;rw[hstep,hi1];exact this
 clear hlt2 hcast;have hz' : b≠0->decide ((b.toNat:Int)=0)=false:=fun hz=>decide_eq_false (fun e=>hz (UInt8.toNat_inj.1 (Int.ofNat_inj.1 e)))
 have tail:∀(A B:Prop),(b.toNat<128->A)->(¬b.toNat<128->B)->eU (decide ((b.toNat:Int)<128)) A B:=fun A B h1 h2 =>
  ac (fun c=>h1 (by have:=aB c; omega)) (fun c=>h2 (by have:=aG c; omega))
 have hstep9:decide ((i:Int)=9)=decide (i=9):=by
  rcases Nat.lt_or_ge i 9 with h9 | h9
  . rw[decide_eq_false (by omega),decide_eq_false (by omega)]
  . rw[decide_eq_true (by omega),decide_eq_true (by omega)]
 rw[hstep9];by_cases h9:i=9
 . rw[decide_eq_true h9]
   conv=>whnf
   rw[show decide ((1:Int)<((b.toNat % 128:Nat):Int))=false from decide_eq_false (by omega)]
   conv=>whnf
   refine⟨_,⟨by omega,hbg⟩,?_⟩
   conv=>whnf
   by_cases hb:b.toNat<128
   . rw[if_pos hb]at hq;rw[show decide ((b.toNat:Int)<128)=true from decide_eq_true (by omega)]
     conv=>whnf
     refine⟨_,⟨by omega,hbg⟩,?_⟩
     conv=>whnf
     by_cases hz:b=0
     . subst hz
       conv=>whnf
       rw[if_pos ⟨rfl,by omega⟩]at hq
       rw[show decide ((0:Int)<(i:Int))=true from decide_eq_true (by omega)]
       conv=>whnf
       exact⟨[],rfl,bad hq⟩
     . rw[if_neg (fun x=>hz x.1)]at hq
       rw[hz' hz]
       conv=>whnf
       exact⟨[],rfl,good hq.symm⟩
   . rw[show decide ((b.toNat:Int)<128)=false from decide_eq_false (by omega)]
     conv=>whnf
     exact fin hb
 . rw[decide_eq_false h9]
   conv=>whnf
   refine⟨_,⟨by omega,hbg⟩,?_⟩
   conv=>whnf
   by_cases hb:b.toNat<128
   . rw[if_pos hb]at hq;rw[show decide ((b.toNat:Int)<128)=true from decide_eq_true (by omega)]
     conv=>whnf
     refine⟨_,⟨by omega,hbg⟩,?_⟩
     conv=>whnf
     by_cases hz:b=0
     . subst hz
       conv=>whnf
       by_cases h0i:0<i
       . rw[if_pos ⟨rfl,h0i⟩]at hq;rw[show decide ((0:Int)<(i:Int))=true from decide_eq_true (by omega)]
         conv=>whnf
         exact⟨[],rfl,bad hq⟩
       . rw[if_neg (fun x=>h0i x.2)]at hq
         rw[show decide ((0:Int)<(i:Int))=false from decide_eq_false (by omega)]
         conv=>whnf
         exact⟨[],rfl,good hq.symm⟩
     . rw[if_neg (fun x=>hz x.1)]at hq
       rw[hz' hz]
       conv=>whnf
       exact⟨[],rfl,good hq.symm⟩
   . rw[show decide ((b.toNat:Int)<128)=false from decide_eq_false (by omega)]
     conv=>whnf
     exact fin hb
theorem j3 {s:List UInt8} {f:Bool} {e:Int} (h:Q (.int .i64 (iN s e).1) [ug (iN s e).2.1 f (iN s e).2.2]):ACall Tryz.prog 112 1 [.ptr 0 0] [ug s f e] Q:=by
 refine ad Tryz.func112 1 rfl (aA rfl) ?_
 conv=>whnf
 have hl:=al s;unfold iN at h;by_cases he:e=0
 rotate_left
 focus
  rw[if_neg he]at h;rw[show decide (e=0)=false from decide_eq_false he]
  conv=>whnf
  exact⟨[0],rfl,h⟩
 subst he;rw[if_pos rfl]at h
 conv=>whnf
 refine .pure (ru (fun k h0 hk hd hk10=>⟨rfl,?_⟩) (fun h1=>⟨rfl,?_⟩))
 . conv=>whnf
   have hn:=i8 s;unfold bQ at h;rw[if_pos h0]at h;by_cases hb:(dL s).1<=9223372036854775807
   . rw[if_pos hb]at h;rw[show decide (9223372036854775807<(dL s).1)=false from decide_eq_false (by omega)]
     conv=>whnf
     refine⟨⟨by omega,by omega⟩,?_⟩
     conv=>whnf
     rw[h0,hd,<-mL,<-bw (n:=(dL s).1) (by omega)]at h
     exact⟨[0],rfl,h⟩
   . rw[if_neg hb]at h;rw[show decide (9223372036854775807<(dL s).1)=true from decide_eq_true (by omega)]
     conv=>whnf
     exact⟨[0],rfl,h⟩
 . conv=>whnf
   unfold bQ at h;rw[if_neg h1]at h;rw[show decide ((dL s).2.2=0)=false from decide_eq_false h1]
   conv=>whnf
   rw[show decide ((dL s).2.2=0)=false from decide_eq_false h1]
   conv=>whnf
   exact⟨[0],rfl,h⟩
theorem iv {s:List UInt8} {f:Bool} {e most:Int} (h:Q (.str (bi most s e).1) [ug (bi most s e).2.1 f (bi most s e).2.2]):ACall Tryz.prog 152 1 [.ptr 0 0,.int .i64 most] [ug s f e] Q:=by
 refine ad Tryz.func152 1 rfl (aA rfl) ?_
 conv=>whnf
 refine .call [0] 1 ⟨rfl,rfl,rfl⟩ (j3 ?_);unfold bi at h;by_cases he:e=0
 rotate_left
 focus
  rw[if_neg he]at h;rw[JR he]
  conv=>whnf
  rw[show decide (e=0)=false from decide_eq_false he]
  conv=>whnf
  exact⟨[0],rfl,h⟩
 subst he;rw[if_pos rfl]at h;have hnn:=lA s;have hlen:=zd s;have herr:=Fm (s:=s);unfold pz at h;have er:iN s 0=bQ s:=rfl;rw[er];generalize bQ s=N at *;obtain⟨n,r,x⟩:=N;simp only at h hnn hlen herr ⊢;obtain⟨n,rfl⟩:∃k:Nat,n=(k:Int):=⟨n.toNat,by omega⟩
 have hl:=al r;by_cases hx:x=0
 rotate_left
 focus
  rw[if_neg hx]at h
  conv=>whnf
  rw[show decide (x=0)=false from decide_eq_false hx]
  conv=>whnf
  rw[(herr hx).2];exact⟨[0],rfl,h⟩
 subst hx;rw[if_pos rfl]at h
 conv=>whnf
 by_cases hm:most<(n:Int)
 . rw[if_pos hm]at h;rw[show decide (most<(n:Int))=true from decide_eq_true hm]
   conv=>whnf
   exact⟨[0],rfl,h⟩
 rw[if_neg hm]at h;rw[show decide (most<(n:Int))=false from decide_eq_false hm]
 conv=>whnf
 by_cases hll:(r.length:Int)<(n:Int)
 . rw[if_pos hll]at h;rw[show decide (((bs r).length:Int)<(n:Int))=true from decide_eq_true (by omega)]
   conv=>whnf
   exact⟨[0],rfl,h⟩
 rw[if_neg hll]at h;rw[show decide (((bs r).length:Int)<(n:Int))=false from decide_eq_false (by omega)]
 conv=>whnf
 refine⟨⟨by omega,by omega⟩,?_⟩
 conv=>whnf
 refine⟨r.take n,by rw[Int.toNat_natCast,nD]; exact bz _,?_⟩
 conv=>whnf
 refine⟨⟨by omega,by omega⟩,?_⟩
 conv=>whnf
 rw[<-mL]at h;exact⟨[0],rfl,h⟩
theorem dT {s:List UInt8} {f:Bool} {e:Int} (h:Q (.int .i64 (aX s e).1) [ug (aX s e).2.1 f (aX s e).2.2]):ACall Tryz.prog 151 1 [.ptr 0 0] [ug s f e] Q:=by
 refine ad Tryz.func151 1 rfl (aA rfl) ?_
 conv=>whnf
 unfold aX at h;by_cases he:e=0
 rotate_left
 focus
  rw[if_neg he]at h;rw[show decide (e=0)=false from decide_eq_false he]
  conv=>whnf
  rw[show decide (e=0)=false from decide_eq_false he]
  conv=>whnf
  exact⟨[0],rfl,h⟩
 subst he;rw[if_pos rfl]at h;cases s with
 | nil =>
  conv=>whnf
  exact⟨[0],rfl,h⟩
 | cons b r =>
  conv=>whnf
  rw[show decide (((bs (b::r)).length:Int)=0)=false from decide_eq_false (by rw[al]; simp only[List.length_cons]; omega)]
  conv=>whnf
  refine⟨_,⟨by omega,rfl⟩,?_⟩
  conv=>whnf
  refine⟨⟨by omega,by rw[al]; simp only[List.length_cons]; omega⟩,?_⟩
  conv=>whnf
  have:=b.toNat_lt;rw[vj (by omega)]
  exact⟨[0],rfl,h⟩
theorem IC {l:List UInt8} (h:l ≠ []):∃x r,bs l=x::r:=by
 cases l with
 | nil=>exact absurd rfl h
 | cons b l=>exact⟨_,_,rfl⟩
theorem gX (l:List UInt8) (b:UInt8):bs l ++ [[.int .u8 b.toNat]]=bs (l ++ [b]):=by rw[iA]; rfl
theorem zh {l:List UInt8} {f:Bool} (h:Q (.sl 1 (bs l) true) []):ACall Tryz.prog 122 0 [.sl 1 (bs l) f] [] Q:=by
 refine ad Tryz.func122 0 rfl (aA rfl) ?_
 conv=>whnf
 refine⟨⟨by omega,rfl,by omega⟩,?_⟩
 conv=>whnf
 refine⟨[],rfl,?_⟩;show Q (.sl 1 (List.take ((bs l).length:Int).toNat (bs l)) true) []
 rw[Int.toNat_natCast,List.take_length]; exact h
theorem Lr (m:Nat) (h:m<2 ^ 64):IntKind.u8.wrap ↑(BitVec.ofInt IntKind.u8.bits (IntKind.u8.wrap (m:Int)) ||| BitVec.ofInt IntKind.u8.bits 128).toNat=(((UInt8.ofNat (m % 128+128)).toNat:Nat):Int):=by
 have e0:(UInt8.ofNat (m % 128+128)).toNat=m % 128+128:=gx (by omega)
 have ew:∀n:Int,IntKind.u8.wrap n=n % 256:=fun n=>by simp[IntKind.wrap,IntKind.bits,IntKind.signed]
 have e1:(BitVec.ofInt 8 (IntKind.u8.wrap (m:Int))).toNat=m % 256:=by
  rw[BitVec.toNat_ofInt,ew];have:((2:Nat) ^ 8:Nat)=256:=by decide
  omega
 have e2:(BitVec.ofInt 8 128).toNat=128:=by decide
 have e3:(BitVec.ofInt IntKind.u8.bits (IntKind.u8.wrap (m:Int)) ||| BitVec.ofInt IntKind.u8.bits 128).toNat=m % 128+128:=by
  show(BitVec.ofInt 8 (IntKind.u8.wrap (m:Int)) ||| BitVec.ofInt 8 128).toNat=_
  rw[BitVec.toNat_or,e1,e2];apply Nat.eq_of_testBit_eq;intro i;rw[show m % 128+128=2 ^ 7*1+m % 128 by omega,Nat.testBit_or,Nat.testBit_two_pow_mul_add 1 (show m % 128<2 ^ 7 by omega)]
  rcases Nat.lt_or_ge i 7 with h7 | h7
  . rw[if_pos h7,show(128:Nat)=2 ^ 7 from rfl,Nat.testBit_two_pow,show(256:Nat)=2 ^ 8 from rfl,Nat.testBit_mod_two_pow,Nat.testBit_mod_two_pow]
    simp only[h7,show i<8 by omega,decide_true,Bool.true_and,show ¬(7=i) by omega,decide_false,Bool.or_false]
  . rw[if_neg (by omega)]
    rcases Nat.eq_or_lt_of_le h7 with h8 | h8
    . subst h8;rw[show(128:Nat)=2 ^ 7 from rfl,Nat.testBit_two_pow]
      simp
    . rw[show(128:Nat)=2 ^ 7 from rfl,Nat.testBit_two_pow,show(256:Nat)=2 ^ 8 from rfl,Nat.testBit_mod_two_pow]
      rw[show(1:Nat)=2 ^ 0 from rfl,Nat.testBit_two_pow]
      simp only[show ¬(i<8) by omega,decide_false,Bool.false_and,Bool.false_or]
      rw[decide_eq_false (by omega),decide_eq_false (by omega)]
 rw[e3,e0,ew]; omega
theorem Ls (m:Nat) (h:m<128):IntKind.u8.wrap (m:Int)=(((UInt8.ofNat m).toNat:Nat):Int):=by
 have e0:(UInt8.ofNat m).toNat=m:=gx (by omega)
 have ew:∀n:Int,IntKind.u8.wrap n=n % 256:=fun n=>by simp[IntKind.wrap,IntKind.bits,IntKind.signed]
 rw[e0,ew]; omega
theorem K0 (m:Nat):Int.fdiv (m:Int) (2 ^ min (7:Int).toNat IntKind.u64.bits)=((m / 128:Nat):Int):=by
 show Int.fdiv (m:Int) (2 ^ 7)=_
 rw[show((2:Int) ^ 7)=((128:Nat):Int)from rfl,Int.fdiv_eq_ediv_of_nonneg _ (by omega)]
 rfl
def Ca (l:List UInt8) (N:Nat) (m:Nat) (ws:List V) (H:List O):Prop :=
 ∃(out:List UInt8) (n f:Nat),m=f+1/\n<128 ^ (f+1)/\f<=9/\n<2 ^ 64/\out++cD f n=l++md N/\out.length<=l.length+9 /\
  ((ws = [.sl 1 (bs out) true,.int .u64 n]/\H = [])\/(ws = [.ms 1 0 0 out.length false,.int .u64 n]/\H = [.buf (bs out)]))
set_option maxRecDepth 8000 in
theorem yl {l:List UInt8} {N:Nat} (hN:N<2 ^ 64) (hl:l.length<=1099511627776) (h:Q (.ms 1 0 0 (l++md N).length false) [.buf (bs (l++md N))]):ACall Tryz.prog 121 0 [.sl 1 (bs l) true,.int .u64 N] [] Q:=by
 refine ad Tryz.func121 0 rfl (aA rfl) ?_
 conv=>whnf
 refine⟨⟨[0,1],Ca l N,.at 10 ⟨l,N,9,rfl,?_,by omega,hN,rfl,by omega,.inl ⟨rfl,rfl⟩⟩,?_⟩⟩
 . exact Nat.lt_of_lt_of_le hN (by decide)
 rintro m ws H ⟨out,n,f,rfl,hn,hf,hn64,hout,hlen,hshape⟩;have hlo:=al out;have hd:n<128->cD f n = [UInt8.ofNat n]:=fun hlt=>by
  cases f with
  | zero=>rfl
  | succ f=>rw[cD,if_pos hlt]
 have ne1:∀x:V,[[x]]≠([]:List (List V)):=fun x=>by simp
 rcases hshape with⟨rfl,rfl⟩ | ⟨rfl,rfl⟩<;>conv=>whnf
 . refine ac (fun c=>?_) (fun c=>?_)<;>try rw[c]<;>conv=>whnf
   . have c' := aB c;obtain⟨g,rfl⟩:∃g,f=g+1:=by
      cases f with
      | zero=>omega
      | succ g=>exact⟨g,rfl⟩
     have hdn:cD (g+1) n=UInt8.ofNat (n % 128+128)::cD g (n / 128):=by rw[cD,if_neg (by omega)]
     rw[hdn]at hout;rw[Lr n hn64];have fin:∀(i:Nat) (ws:List V) (H:List O),ws = [.ms 1 1 0 (out ++ [UInt8.ofNat (n % 128+128)]).length false,.int .u64 (Int.fdiv (n:Int) (2 ^ min (7:Int).toNat IntKind.u64.bits))]->(ar H 1 = .buf (bs (out ++ [UInt8.ofNat (n % 128+128)])))->H.length=2->jo 0 (g+1+1) (Ca l N) ws H:=fun i ws H e1 e2 e3=>by
      subst e1;refine .go [1] ?_ (g+1) (by omega) ⟨out ++ [UInt8.ofNat (n % 128+128)],n / 128,g,rfl,?_,by omega,by omega,?_,?_,.inr ⟨?_,?_⟩⟩
      . rw[e3]; rfl
      . rw[Nat.pow_succ]at hn;exact Nat.div_lt_of_lt_mul (by rw[Nat.mul_comm]; exact hn)
      . rw[<-hout]; simp
      . have:=congrArg List.length hout;have h10:=fw N;have:=jz g (n / 128);simp only[aD,List.length_cons,List.length_nil]at *;omega
      . rw[K0]; rfl
      . simp only[aJ,e2]; rfl
     have hcases:out = []\/out ≠ []:=by cases out<;>simp
     rcases hcases with rfl | hne
     . refine⟨Nat.le_refl 1,?_⟩
       conv=>whnf
       refine⟨(show 1*1<=70368744177664 by decide),?_⟩
       conv=>whnf
       refine⟨(show(0:Int)<=7 by decide),?_⟩
       conv=>whnf
       exact fin 1 _ [_,_] rfl rfl rfl
     . obtain⟨x,r,hx⟩:=IC hne;refine⟨Nat.le_refl 1,?_⟩;rw[hx]
       conv=>whnf
       rw[<-hx];refine⟨fun e=>absurd e (ne1 _),fun _=>?_⟩
       conv=>whnf
       refine⟨(show(bs out ++ [[V.int .u8 ((UInt8.ofNat (n % 128+128)).toNat:Int)]]).length*1<=70368744177664 by rw[aD,hlo]; simp only[List.length_cons,List.length_nil]; omega),?_⟩
       conv=>whnf
       refine⟨(show(0:Int)<=7 by decide),?_⟩
       conv=>whnf
       refine fin 1 _ _ ?_ ?_ rfl
       . show [V.ms 1 1 0 (bs out ++ [[V.int .u8 ((UInt8.ofNat (n % 128+128)).toNat:Int)]]).length false,.int .u64 (Int.fdiv (n:Int) (2 ^ min (7:Int).toNat IntKind.u64.bits))]=_
         rw[gX,al]
       . show O.buf (bs out ++ [[V.int .u8 ((UInt8.ofNat (n % 128+128)).toNat:Int)]])=_
         rw[gX]
   . have c' := aG c;rw[hd (by omega)]at hout
     rw[Ls n (by omega)]
     have hcases:out = []\/out ≠ []:=by cases out<;>simp
     rcases hcases with rfl | hne
     . refine⟨Nat.le_refl 1,?_⟩
       conv=>whnf
       refine⟨(show 1*1<=70368744177664 by decide),?_⟩
       conv=>whnf
       rw[<-hout]at h;exact⟨[1],rfl,h⟩
     . obtain⟨x,r,hx⟩:=IC hne;refine⟨Nat.le_refl 1,?_⟩;rw[hx]
       conv=>whnf
       rw[<-hx];refine⟨fun e=>absurd e (ne1 _),fun _=>?_⟩
       conv=>whnf
       refine⟨(show(bs out ++ [[V.int .u8 ((UInt8.ofNat n).toNat:Int)]]).length*1<=70368744177664 by rw[aD,hlo]; simp only[List.length_cons,List.length_nil]; omega),?_⟩
       conv=>whnf
       rw[<-hout,<-al,<-gX]at h;exact⟨[1],rfl,h⟩
 . refine ac (fun c=>?_) (fun c=>?_)<;>try rw[c]<;>conv=>whnf
   . have c' := aB c;obtain⟨g,rfl⟩:∃g,f=g+1:=by
      cases f with
      | zero=>omega
      | succ g=>exact⟨g,rfl⟩
     have hdn:cD (g+1) n=UInt8.ofNat (n % 128+128)::cD g (n / 128):=by rw[cD,if_neg (by omega)]
     rw[hdn]at hout;rw[Lr n hn64];refine⟨Nat.le_refl 1,?_⟩
     conv=>whnf
     refine⟨by rw[hlo]; rfl,(show(List.drop 0 (bs out) ++ [[V.int .u8 ((UInt8.ofNat (n % 128+128)).toNat:Int)]]).length*1<=70368744177664 by rw[aD,List.drop_zero,hlo]; simp only[List.length_cons,List.length_nil]; omega),?_⟩
     conv=>whnf
     refine⟨(show(0:Int)<=7 by decide),?_⟩
     conv=>whnf
     refine .go [2] rfl (g+1) (by omega) ⟨out ++ [UInt8.ofNat (n % 128+128)],n / 128,g,rfl,?_,by omega,by omega,?_,?_,.inr ⟨?_,?_⟩⟩
     . rw[Nat.pow_succ]at hn;exact Nat.div_lt_of_lt_mul (by rw[Nat.mul_comm]; exact hn)
     . rw[<-hout]; simp
     . have:=congrArg List.length hout;have h10:=fw N;have:=jz g (n / 128);simp only[aD,List.length_cons,List.length_nil]at *;omega
     . show [V.ms 1 0 0 (List.drop 0 (bs out) ++ [[V.int .u8 ((UInt8.ofNat (n % 128+128)).toNat:Int)]]).length false,.int .u64 (Int.fdiv (n:Int) (2 ^ min (7:Int).toNat IntKind.u64.bits))]=_
       rw[K0,List.drop_zero,gX,al]
     . show [O.buf (List.drop 0 (bs out) ++ [[V.int .u8 ((UInt8.ofNat (n % 128+128)).toNat:Int)]])]=_
       rw[List.drop_zero,gX]
   . have c' := aG c;rw[hd (by omega)]at hout
     rw[Ls n (by omega)]
     refine⟨Nat.le_refl 1,?_⟩
     conv=>whnf
     refine⟨by rw[hlo]; rfl,(show(List.drop 0 (bs out) ++ [[V.int .u8 ((UInt8.ofNat n).toNat:Int)]]).length*1<=70368744177664 by rw[aD,List.drop_zero,hlo]; simp only[List.length_cons,List.length_nil]; omega),?_⟩
     conv=>whnf
     rw[<-hout,<-al,<-gX]at h;exact⟨[2],rfl,h⟩
theorem Gq {n:Int} (h0:0<=n) (h1:n<=9223372036854775807):IntKind.u64.wrap n=((n.toNat:Nat):Int):=by rw[aN]; omega
theorem j7 {l:List UInt8} {f:Bool} {n:Int} (h0:0<=n) (h1:n<=9223372036854775807) (hl:l.length<=1099511627776) (h:Q (.ms 1 0 0 (l++d7 n).length false) [.buf (bs (l++d7 n))]) :
 ACall Tryz.prog 82 0 [.sl 1 (bs l) f,.int .i64 n] [] Q:=by
 refine ad Tryz.func82 0 rfl (aA rfl) ?_
 conv=>whnf
 refine .pure (zh ⟨rfl,?_⟩)
 conv=>whnf
 rw[Gq h0 h1];refine .call [] 0 ⟨rfl,rfl,rfl⟩ (yl (N:=n.toNat) (by omega) hl ?_)
 conv=>whnf
 exact⟨[0],rfl,h⟩
theorem dV {l s:List UInt8} {f:Bool} (hs:s.length<=1099511627776) (hl:l.length<=1099511627776) (h:Q (.ms 1 0 0 (l++bm s).length false) [.buf (bs (l++bm s))]) :
 ACall Tryz.prog 79 0 [.sl 1 (bs l) f,.str s] [] Q:=by
 refine ad Tryz.func79 0 rfl (aA rfl) ?_
 conv=>whnf
 refine .call [] 0 ⟨rfl,rfl,rfl⟩ (j7 (n:=(s.length:Int)) (by omega) (by omega) hl ?_)
 conv=>whnf
 have hd:=fw s.length;have e:bs (l++d7 (s.length:Int))++bs s=bs (l++bm s):=by
  rw[<-iA,List.append_assoc]; rfl
 refine⟨by rw[al]; rfl,(show(List.drop 0 (bs (l++d7 (s.length:Int)))++bs s).length*1<=70368744177664 by
  rw[List.drop_zero,e,al];unfold bm;simp only[aD]; omega),?_⟩
 conv=>whnf
 refine⟨[1],rfl,?_⟩;show Q (.ms 1 0 0 (List.drop 0 (bs (l++d7 (s.length:Int)))++bs s).length false) [.buf (List.drop 0 (bs (l++d7 (s.length:Int)))++bs s)]
 rw[List.drop_zero,e,al];exact h
def Cy (N:Nat) (m:Nat) (ws:List V) (H:List O):Prop :=
 ∃(out:List UInt8) (n f:Nat),m=f+1/\n<128 ^ (f+1)/\f<=9/\n<2 ^ 64/\out++cD f n=md N/\out.length<=9 /\
  ((out = []/\ws = [.int .u64 n,.nils]/\H = [])\/(ws = [.int .u64 n,.ms 1 0 0 out.length false]/\H = [.buf (bs out)]))
theorem oG (n:Nat) (h:n<2 ^ 64):IntKind.u64.wrap (Int.tdiv (n:Int) 128)=((n / 128:Nat):Int):=by
 rw[show Int.tdiv (n:Int) 128=((n / 128:Nat):Int)from rfl,aN]; omega
theorem CJ (n:Nat):IntKind.u8.wrap (Int.tmod (n:Int) 128)=((n % 128:Nat):Int):=by
 have ew:∀n:Int,IntKind.u8.wrap n=n % 256:=fun n=>by simp[IntKind.wrap,IntKind.bits,IntKind.signed]
 rw[show Int.tmod (n:Int) 128=((n % 128:Nat):Int)from rfl,ew]; omega
theorem Ee (n:Nat):IntKind.u8.wrap (((n % 128:Nat):Int)+128)=(((UInt8.ofNat (n % 128+128)).toNat:Nat):Int):=by
 have ew:∀n:Int,IntKind.u8.wrap n=n % 256:=fun n=>by simp[IntKind.wrap,IntKind.bits,IntKind.signed]
 rw[ew,gx (by omega)]; omega
set_option maxRecDepth 8000 in
theorem oL {N:Nat} (hN:N<2 ^ 64) (h:Q (.ms 1 0 0 (md N).length false) [.buf (bs (md N))]):ACall Tryz.prog 126 0 [.int .u64 N] [] Q:=by
 refine ad Tryz.func126 0 rfl (aA rfl) ?_
 conv=>whnf
 refine⟨⟨[0,3],Cy N,.at 10 ⟨[],N,9,rfl,?_,by omega,hN,rfl,by simp,.inl ⟨rfl,rfl,rfl⟩⟩,?_⟩⟩
 . exact Nat.lt_of_lt_of_le hN (by decide)
 rintro m ws H ⟨out,n,f,rfl,hn,hf,hn64,hout,hlen,hshape⟩;have hlo:=al out;have hd:n<128->cD f n = [UInt8.ofNat n]:=fun hlt=>by
  cases f with
  | zero=>rfl
  | succ f=>rw[cD,if_pos hlt]
 have hdn:¬n<128 -> ∃g,f=g+1/\cD f n=UInt8.ofNat (n % 128+128)::cD g (n / 128):=fun hge=>by
  cases f with
  | zero=>omega
  | succ g=>exact⟨g,rfl,by rw[cD,if_neg hge]⟩
 have nxt:∀(g:Nat) (ws:List V) (H:List O) (sel:List Nat) (H' : List O),f=g+1->cD f n=UInt8.ofNat (n % 128+128)::cD g (n / 128)->gC sel H.length 0=true->ws.map (aM (bI sel)) = [.int .u64 (IntKind.u64.wrap (Int.tdiv (n:Int) 128)),.ms 1 0 0 (out ++ [UInt8.ofNat (n % 128+128)]).length false]->aJ (bI sel) H sel=H'->H' = [.buf (bs (out ++ [UInt8.ofNat (n % 128+128)]))]->jo 0 (f+1) (Cy N) ws H:=fun g ws H sel H' ef ed hsel e1 e2 e3=>by
  subst ef;rw[ed]at hout;refine .go sel hsel (g+1) (by omega) ⟨out ++ [UInt8.ofNat (n % 128+128)],n / 128,g,rfl,?_,by omega,by omega,?_,?_,.inr ⟨?_,?_⟩⟩
  . rw[Nat.pow_succ]at hn;exact Nat.div_lt_of_lt_mul (by rw[Nat.mul_comm]; exact hn)
  . rw[<-hout]; simp
  . have:=congrArg List.length hout;have h10:=fw N;have:=jz g (n / 128);simp only[aD,List.length_cons,List.length_nil]at *;omega
  . rw[e1,oG n hn64]
  . rw[e2,e3]
 rcases hshape with⟨rfl,rfl,rfl⟩ | ⟨rfl,rfl⟩<;>conv=>whnf
 . refine⟨by decide,?_⟩
   conv=>whnf
   rw[CJ];refine⟨by decide,?_⟩
   conv=>whnf
   refine ac (fun c=>?_) (fun c=>?_)<;>try rw[c]<;>conv=>whnf
   . have c' := aB c;rw[oG n hn64]at c';rw[hd (by omega)]at hout
     refine⟨Nat.le_refl 1,?_⟩
     conv=>whnf
     refine⟨(show 1*1<=70368744177664 by decide),?_⟩
     conv=>whnf
     rw[<-hout]at h;refine⟨[1],rfl,?_⟩;have e1:((n % 128:Nat):Int)=(((UInt8.ofNat n).toNat:Nat):Int):=by rw[gx (by omega)]; omega
     show Q (.ms 1 0 0 1 false) [.buf [[.int .u8 ((n % 128:Nat):Int)]]]
     rw[e1]; exact h
   . have c' := aG c;rw[oG n hn64]at c';obtain⟨g,ef,ed⟩:=hdn (by omega)
     rw[Ee];refine⟨Nat.le_refl 1,?_⟩
     conv=>whnf
     refine⟨(show 1*1<=70368744177664 by decide),?_⟩
     conv=>whnf
     exact nxt g _ _ [1] _ ef ed rfl rfl rfl rfl
 . refine⟨by decide,?_⟩
   conv=>whnf
   rw[CJ];refine⟨by decide,?_⟩
   conv=>whnf
   refine ac (fun c=>?_) (fun c=>?_)<;>try rw[c]<;>conv=>whnf
   . have c' := aB c;rw[oG n hn64]at c';rw[hd (by omega)]at hout
     have e1:((n % 128:Nat):Int)=(((UInt8.ofNat n).toNat:Nat):Int):=by rw[gx (by omega)]; omega
     rw[e1];refine⟨Nat.le_refl 1,?_⟩
     conv=>whnf
     refine⟨by rw[hlo]; rfl,(show(List.drop 0 (bs out) ++ [[V.int .u8 ((UInt8.ofNat n).toNat:Int)]]).length*1<=70368744177664 by rw[aD,List.drop_zero,hlo]; simp only[List.length_cons,List.length_nil]; omega),?_⟩
     conv=>whnf
     rw[<-hout,<-al,<-gX]at h;exact⟨[2],rfl,h⟩
   . have c' := aG c;rw[oG n hn64]at c';obtain⟨g,ef,ed⟩:=hdn (by omega)
     rw[Ee];refine⟨Nat.le_refl 1,?_⟩
     conv=>whnf
     refine⟨by rw[hlo]; rfl,(show(List.drop 0 (bs out) ++ [[V.int .u8 ((UInt8.ofNat (n % 128+128)).toNat:Int)]]).length*1<=70368744177664 by rw[aD,List.drop_zero,hlo]; simp only[List.length_cons,List.length_nil]; omega),?_⟩
     conv=>whnf
     refine nxt g _ _ [2] [.buf (List.drop 0 (bs out) ++ [[V.int .u8 ((UInt8.ofNat (n % 128+128)).toNat:Int)]])] ef ed rfl ?_ rfl ?_
     . show [V.int .u64 (IntKind.u64.wrap (Int.tdiv (n:Int) 128)),V.ms 1 0 0 (List.drop 0 (bs out) ++ [[V.int .u8 ((UInt8.ofNat (n % 128+128)).toNat:Int)]]).length false]=_
       rw[List.drop_zero,gX,al]
     . rw[List.drop_zero,gX]
theorem jh {n:Int} (h0:0<=n) (h1:n<=9223372036854775807) (h:Q (.ms 1 0 0 (d7 n).length false) [.buf (bs (d7 n))]) :
 ACall Tryz.prog 85 0 [.int .i64 n] [] Q:=by
 refine ad Tryz.func85 0 rfl (aA rfl) ?_
 conv=>whnf
 rw[Gq h0 h1];refine .call [] 0 ⟨rfl,rfl,rfl⟩ (oL (N:=n.toNat) (by omega) ?_)
 conv=>whnf
 exact⟨[0],rfl,h⟩
theorem dU {s:List UInt8} (hs:s.length<=1099511627776) (h:Q (.ms 1 0 0 (bm s).length false) [.buf (bs (bm s))]) :
 ACall Tryz.prog 127 0 [.str s] [] Q:=by
 refine ad Tryz.func127 0 rfl (aA rfl) ?_
 conv=>whnf
 refine .call [] 0 ⟨rfl,rfl,rfl⟩ (jh (n:=(s.length:Int)) (by omega) (by omega) ?_)
 conv=>whnf
 have hd:=fw s.length;have e:bs (d7 (s.length:Int))++bs s=bs (bm s):=by
  rw[<-iA]; rfl
 refine⟨by rw[al]; rfl,(show(List.drop 0 (bs (d7 (s.length:Int)))++bs s).length*1<=70368744177664 by
  rw[List.drop_zero,e,al];unfold bm;simp only[aD]; omega),?_⟩
 conv=>whnf
 refine⟨[1],rfl,?_⟩;show Q (.ms 1 0 0 (List.drop 0 (bs (d7 (s.length:Int)))++bs s).length false) [.buf (List.drop 0 (bs (d7 (s.length:Int)))++bs s)]
 rw[List.drop_zero,e,al];exact h
theorem iz {i j n m:Nat} {f:Bool} {X Y:List UInt8} {H:List O} {K:V->List O->Prop} (hij:Nat.beq i j=false) (hX:ar H i = .buf (bs X)) (hY:ar H j = .buf (bs Y)) (hn:n=X.length) (hm:m=Y.length) (hs:X.length+Y.length<=70368744177664)
 (hK:aV (bX H i .dead ++ [.buf (bs (X++Y))]) fun H' => K (.ms 1 (bX H i .dead).length 0 (X++Y).length false) H') :
 0+m<=(bs Y).length/\dW 1 1 (.ms 1 i 0 n false) (.ms 1 j 0 m f) (List.take m (List.drop 0 (bs Y))) H K:=by
 subst hn hm;refine⟨by rw[al]; omega,?_⟩
 unfold dW db;simp only[hij];unfold co;simp only[show Nat.beq 1 1=true from rfl,hX]
 refine⟨by rw[al]; rfl,?_⟩
 have e:List.drop 0 (bs X)++List.take Y.length (List.drop 0 (bs Y))=bs (X++Y):=by
  rw[List.drop_zero,List.drop_zero,iA,<-al Y,List.take_length]
 rw[e];refine⟨by rw[al,aD]; omega,?_⟩
 rw[al];exact hK
theorem ze (n:Int):(d7 n).length<=10:=fw _
theorem uk {n:Nat} (hn:0<n) (hn2:n<=1000000000) (h:Q (.mr 1 0 0 0) [.buf (List.replicate n [.int .u8 0])]):ACall Tryz.prog 157 0 [.nils,fI n] [] Q:=by
 refine ad Tryz.func157 0 rfl (aA rfl) ?_
 conv=>whnf
 rw[show decide ((n:Int)<0)=false from decide_eq_false (by omega)]
 conv=>whnf
 have e:IntKind.i64.wrap ((n:Int)-IntKind.i64.wrap (0-0))=(n:Int):=by rw[show IntKind.i64.wrap (0-0)=0 from rfl,Int.sub_zero,bw (by omega)]
 rw[e,show decide (0<(n:Int))=true from decide_eq_true (by omega)]
 conv=>whnf
 refine⟨rfl,?_⟩
 conv=>whnf
 refine⟨⟨by omega,by omega⟩,?_⟩
 refine⟨(show(List.replicate n [V.int .u8 0]).length*1<=70368744177664 by rw[List.length_replicate]; omega),?_⟩
 conv=>whnf
 refine⟨⟨by omega,by omega⟩,?_⟩
 conv=>whnf
 exact⟨[0],rfl,h⟩
theorem xc (n:Int) (h:-9223372036854775808<=n/\n<=9223372036854775807):zX n<2 ^ 64:=by
 unfold zX;split<;>omega
theorem J1 (n:Int) (h:-9223372036854775808<=n/\n<=9223372036854775807) :
 IntKind.u64.wrap ↑(BitVec.ofInt IntKind.u64.bits (IntKind.u64.wrap (IntKind.u64.wrap n*2 ^ min (1:Int).toNat IntKind.u64.bits)) ^^^ BitVec.ofInt IntKind.u64.bits (IntKind.u64.wrap (n.fdiv (2 ^ min (63:Int).toNat IntKind.i64.bits)))).toNat=(zX n:Int):=by
 have e63:n.fdiv (2 ^ min (63:Int).toNat IntKind.i64.bits)=if 0<=n then 0 else -1:=by
  show n.fdiv (2 ^ 63)=_
  rw[Int.fdiv_eq_ediv_of_nonneg _ (by decide)]
  split<;>omega
 have e1:(2:Int) ^ min (1:Int).toNat IntKind.u64.bits=2:=rfl;have hb:IntKind.u64.bits=64:=rfl;rw[e63,e1];have hx:IntKind.u64.wrap (IntKind.u64.wrap n*2)=(2*n) % 18446744073709551616:=by rw[aN,aN]; omega
 rw[hx];by_cases h0:0<=n
 . rw[if_pos h0,show IntKind.u64.wrap 0=0 from rfl]
   rw[show BitVec.ofInt IntKind.u64.bits 0=0#IntKind.u64.bits from rfl,BitVec.xor_zero,BitVec.toNat_ofInt,aN]
   unfold zX;rw[if_pos h0];show((((2*n) % 18446744073709551616) % (18446744073709551616:Int)).toNat:Int) % 18446744073709551616=_
   omega
 . rw[if_neg h0,show IntKind.u64.wrap (-1)=18446744073709551615 from rfl]
   rw[show BitVec.ofInt IntKind.u64.bits 18446744073709551615=BitVec.allOnes IntKind.u64.bits from rfl,BitVec.xor_allOnes,BitVec.toNat_not,BitVec.toNat_ofInt,aN]
   unfold zX;rw[if_neg h0];show(((18446744073709551616:Nat)-1-(((2*n) % 18446744073709551616) % (18446744073709551616:Int)).toNat:Nat):Int) % 18446744073709551616=_
   omega
theorem vH {l:List UInt8} {f:Bool} {n:Int} (hn:-9223372036854775808<=n/\n<=9223372036854775807) (hl:l.length<=1099511627776) (h:Q (.ms 1 0 0 (l++DS n).length false) [.buf (bs (l++DS n))]) :
 ACall Tryz.prog 156 0 [.sl 1 (bs l) f,.int .i64 n] [] Q:=by
 refine ad Tryz.func156 0 rfl (aA rfl) ?_
 conv=>whnf
 refine .pure (zh ⟨rfl,?_⟩)
 conv=>whnf
 refine⟨by omega,?_⟩
 conv=>whnf
 refine⟨by omega,?_⟩
 conv=>whnf
 refine .call [] 0 ⟨rfl,rfl,rfl⟩ ?_;show ACall Tryz.prog 121 0 [.sl 1 (bs l) true,.int .u64 (IntKind.u64.wrap ↑(BitVec.ofInt IntKind.u64.bits (IntKind.u64.wrap (IntKind.u64.wrap n*2 ^ min (1:Int).toNat IntKind.u64.bits)) ^^^ BitVec.ofInt IntKind.u64.bits (IntKind.u64.wrap (n.fdiv (2 ^ min (63:Int).toNat IntKind.i64.bits)))).toNat)] [] _
 rw[J1 n hn];refine yl (xc n hn) hl ?_
 conv=>whnf
 exact⟨[0],rfl,h⟩
theorem tN {n:Int} (hn:-9223372036854775808<=n/\n<=9223372036854775807) (h:Q (.ms 1 0 0 (DS n).length false) [.buf (bs (DS n))]) :
 ACall Tryz.prog 160 0 [.int .i64 n] [] Q:=by
 refine ad Tryz.func160 0 rfl (aA rfl) ?_
 conv=>whnf
 refine ac (fun c1=>?_) (fun c1=>?_)<;>try rw[c1]<;>conv=>whnf
 . have c1' := aB c1;have e:IntKind.u64.wrap (2*IntKind.u64.wrap n)=((zX n:Nat):Int):=by rw[aN,aN]; unfold zX; rw[if_pos c1']; omega
   rw[e];refine .call [] 0 ⟨rfl,rfl,rfl⟩ (oL (xc n hn) ?_)
   conv=>whnf
   exact⟨[0],rfl,h⟩
 . have c1' := aG c1;have e1:IntKind.i64.wrap (n+1)=n+1:=by rw[IntKind.wrap_i64]; omega
   have e2:IntKind.i64.wrap (0-(n+1)) = - (n+1):=by rw[IntKind.wrap_i64]; omega
   have e:IntKind.u64.wrap (IntKind.u64.wrap (2*IntKind.u64.wrap (IntKind.i64.wrap (0-IntKind.i64.wrap (n+1))))+1)=((zX n:Nat):Int):=by
    rw[e1,e2,aN,aN,aN]; unfold zX; rw[if_neg c1']; omega
   rw[e];refine .call [] 0 ⟨rfl,rfl,rfl⟩ (oL (xc n hn) ?_)
   conv=>whnf
   exact⟨[0],rfl,h⟩
def two (a c:List UInt8) (f:Bool):V:=.sl 1 [[.sl 1 (bs a) f],[.sl 1 (bs c) false]] true
theorem xr {a c:List UInt8} {f:Bool} (ha0:a ≠ []) (hc:c ≠ []) (ha:a.length<=100000000) (hcl:c.length<=100000) (h:Q (.ms 1 0 0 (a++c).length false) [.buf (bs (a++c))]) :
 ACall Tryz.prog 123 0 [two a c f] [] Q:=by
 refine ad Tryz.func123 0 rfl (aA rfl) ?_;have hla:=al a;have hlc:=al c;have hcp:0<c.length:=List.length_pos_iff.2 hc;have hap:0<a.length:=List.length_pos_iff.2 ha0;have ne:∀l:List UInt8,l ≠ []->bs l ≠ []:=fun l hl e=>hl (by have:=congrArg List.length e; rw[al]at this; exact List.length_eq_zero_iff.1 this)
 conv=>whnf
 refine⟨⟨[0,3,9,10,11],fun mm ws H=>∃i s:Nat,ws = [two a c f,fI s,two a c f,fI 2,fI i]/\H = []/\((i=0/\s=0)\/(i=1/\s=a.length)\/(i=2/\s=a.length+c.length))/\mm=2-i,.at 2 ⟨0,0,rfl,rfl,.inl ⟨rfl,rfl⟩,rfl⟩,?_⟩⟩
 rintro mm ws H ⟨i,s,rfl,rfl,hi,rfl⟩;rcases hi with⟨rfl,rfl⟩ | ⟨rfl,rfl⟩ | ⟨rfl,rfl⟩
 focus
  conv=>whnf
  refine⟨_,⟨by decide,rfl⟩,?_⟩
  conv=>whnf
  have e:IntKind.i64.wrap (((0:Nat):Int)+((bs a).length:Int))=(a.length:Int):=by rw[hla,show((0:Nat):Int)=0 from rfl,Int.zero_add,bw (by omega)]
  rw[e,show decide ((a.length:Int)<0)=false from decide_eq_false (by omega)]
  conv=>whnf
  exact .go [] rfl 1 (by omega) ⟨1,_,rfl,rfl,.inr (.inl ⟨rfl,rfl⟩),rfl⟩
 focus
  conv=>whnf
  refine⟨_,⟨by decide,rfl⟩,?_⟩
  conv=>whnf
  have e:IntKind.i64.wrap ((a.length:Int)+((bs c).length:Int))=((a.length+c.length:Nat):Int):=by rw[hlc,bw (by omega)]; omega
  rw[e,show decide (((a.length+c.length:Nat):Int)<0)=false from decide_eq_false (by omega)]
  conv=>whnf
  exact .go [] rfl 0 (by omega) ⟨2,_,rfl,rfl,.inr (.inr ⟨rfl,rfl⟩),rfl⟩
 conv=>whnf
 refine .call [] 0 ⟨rfl,rfl,rfl⟩ (uk (n:=a.length+c.length) (by omega) (by omega) ?_)
 conv=>whnf
 refine⟨⟨[6,25,26,27],fun mm ws H=>∃(j:Nat) (cv:V) (B:List (List V)),ws = [cv,two a c f,fI 2,fI j]/\H = [.buf B] /\
  ((j=0/\cv = .mr 1 0 0 0/\B=List.replicate (a.length+c.length) [.int .u8 0])\/(j=1/\cv = .mr 1 0 0 a.length/\B=bs a++List.replicate c.length [.int .u8 0])\/(j=2/\cv = .ms 1 0 0 (a.length+c.length) false/\B=bs (a++c)))/\mm=2-j,
  .at 2 ⟨0,_,_,rfl,rfl,.inl ⟨rfl,rfl,rfl⟩,rfl⟩,?_⟩⟩
 rintro mm ws H ⟨j,cv,B,rfl,rfl,hj,rfl⟩;rcases hj with⟨rfl,rfl,rfl⟩ | ⟨rfl,rfl,rfl⟩ | ⟨rfl,rfl,rfl⟩
 focus
  conv=>whnf
  refine⟨_,⟨by decide,rfl⟩,?_⟩
  conv=>whnf
  refine⟨fun hx=>absurd hx (ne a ha0),fun _=>⟨by rw[List.length_replicate,hla]; omega,?_⟩⟩
  conv=>whnf
  refine .sub _ _ (.cons (VSub.mr (sz:=1) (id:=0) (off:=0) (len:=0+(bs a).length) (by omega)) (VSubs.refl _)) (HSub.refl _) (.go [0] rfl 1 (by omega) ⟨1,_,_,rfl,rfl,.inr (.inl ⟨rfl,?_,?_⟩),rfl⟩)
  focus
   show V.mr 1 0 0 (0+(bs a).length)=_
   rw[hla,Nat.zero_add]
  focus
   show List.take 0 (List.replicate (a.length+c.length) [V.int .u8 0])++bs a++List.drop (0+0+(bs a).length) (List.replicate (a.length+c.length) [V.int .u8 0])=_
   rw[List.take_zero,List.nil_append,List.drop_replicate,hla];congr 2; omega
 focus
  conv=>whnf
  refine⟨_,⟨by decide,rfl⟩,?_⟩
  conv=>whnf
  refine⟨fun hx=>absurd hx (ne c hc),fun _=>⟨by rw[aD,List.length_replicate,hla,hlc]; omega,?_⟩⟩
  conv=>whnf
  refine .go [0] rfl 0 (by omega) ⟨2,_,_,rfl,rfl,.inr (.inr ⟨rfl,?_,?_⟩),rfl⟩
  focus
   show V.ms 1 0 0 (a.length+(bs c).length) false=_
   rw[hlc]
  focus
   show List.take (0+a.length) (bs a++List.replicate c.length [V.int .u8 0])++bs c++List.drop (0+a.length+(bs c).length) (bs a++List.replicate c.length [V.int .u8 0])=_
   rw[Nat.zero_add,List.take_append_of_le_length (by omega),List.take_of_length_le (by omega),List.drop_of_length_le (by rw[aD,List.length_replicate]; omega),List.append_nil,iA]
 conv=>whnf
 rw[aD]at h;exact⟨[0],rfl,h⟩
theorem Ac (h:Q .nils []):ACall Tryz.prog 157 0 [.nils,fI 0] [] Q:=by
 refine ad Tryz.func157 0 rfl (aA rfl) ?_
 conv=>whnf
 exact⟨[],rfl,h⟩
def Gm (a c:List UInt8) (f g:Bool):V:=.sl 1 [[.sl 1 (bs a) f],[.sl 1 (bs c) g]] true
theorem vl {a c:List UInt8} {f g:Bool} (ha:a.length<=900000000) (hcl:c.length<=900000000) (hac:a.length+c.length<=1000000000) (h:Q (.ms 1 0 0 (a++c).length false) [.buf (bs (a++c))]) :
 ACall Tryz.prog 123 0 [Gm a c f g] [] Q:=by
 refine ACall.ret (ad Tryz.func123 0 rfl (aA rfl) ?_);have hla:=al a;have hlc:=al c
 conv=>whnf
 refine⟨⟨[0,3,9,10,11],fun mm ws H=>∃i s:Nat,ws = [Gm a c f g,fI s,Gm a c f g,fI 2,fI i]/\H = []/\((i=0/\s=0)\/(i=1/\s=a.length)\/(i=2/\s=a.length+c.length))/\mm=2-i,.at 2 ⟨0,0,rfl,rfl,.inl ⟨rfl,rfl⟩,rfl⟩,?_⟩⟩
 rintro mm ws H ⟨i,s,rfl,rfl,hi,rfl⟩;rcases hi with⟨rfl,rfl⟩ | ⟨rfl,rfl⟩ | ⟨rfl,rfl⟩
 focus
  conv=>whnf
  refine⟨_,⟨by decide,rfl⟩,?_⟩
  conv=>whnf
  have e:IntKind.i64.wrap (((0:Nat):Int)+((bs a).length:Int))=(a.length:Int):=by rw[hla,show((0:Nat):Int)=0 from rfl,Int.zero_add,bw (by omega)]
  rw[e,show decide ((a.length:Int)<0)=false from decide_eq_false (by omega)]
  conv=>whnf
  exact .go [] rfl 1 (by omega) ⟨1,_,rfl,rfl,.inr (.inl ⟨rfl,rfl⟩),rfl⟩
 focus
  conv=>whnf
  refine⟨_,⟨by decide,rfl⟩,?_⟩
  conv=>whnf
  have e:IntKind.i64.wrap ((a.length:Int)+((bs c).length:Int))=((a.length+c.length:Nat):Int):=by rw[hlc,bw (by omega)]; omega
  rw[e,show decide (((a.length+c.length:Nat):Int)<0)=false from decide_eq_false (by omega)]
  conv=>whnf
  exact .go [] rfl 0 (by omega) ⟨2,_,rfl,rfl,.inr (.inr ⟨rfl,rfl⟩),rfl⟩
 conv=>whnf
 rcases Nat.eq_zero_or_pos (a.length+c.length)with h0 | hpos
 . have ea:a = []:=List.length_eq_zero_iff.1 (by omega)
   have ec:c = []:=List.length_eq_zero_iff.1 (by omega)
   subst ea; subst ec;refine .call [] 0 ⟨rfl,rfl,rfl⟩ (Ac ?_)
   conv=>whnf
   refine⟨⟨[6,25,26,27],fun mm ws H=>∃(j:Nat),ws = [.ms 1 0 0 0 false,Gm [] [] f g,fI 2,fI j]/\H = [.buf []]/\j<=2/\mm=2-j,
    .frz 3 (.adopt (.sub _ _ (.cons (VSub.ms0 1 0 0 false) (VSubs.refl _)) (HSub.refl _) (.go [0] rfl 2 (by omega) ⟨0,rfl,rfl,by omega,rfl⟩))),?_⟩⟩
   rintro mm ws H ⟨j,rfl,rfl,hj,rfl⟩;rcases(by omega:j=0\/j=1\/j=2)with rfl | rfl | rfl
   focus
    conv=>whnf
    refine⟨_,⟨by decide,rfl⟩,?_⟩
    conv=>whnf
    refine⟨rfl,(show 0*1<=70368744177664 by decide),?_⟩
    conv=>whnf
    exact .go [1] rfl 1 (by omega) ⟨1,rfl,rfl,by omega,rfl⟩
   focus
    conv=>whnf
    refine⟨_,⟨by decide,rfl⟩,?_⟩
    conv=>whnf
    refine⟨rfl,(show 0*1<=70368744177664 by decide),?_⟩
    conv=>whnf
    exact .go [1] rfl 0 (by omega) ⟨2,rfl,rfl,by omega,rfl⟩
   conv=>whnf
   exact⟨[0],rfl,.done [0] rfl h⟩
 refine .call [] 0 ⟨rfl,rfl,rfl⟩ (uk (n:=a.length+c.length) (by omega) (by omega) ?_)
 conv=>whnf
 refine⟨⟨[6,25,26,27],fun mm ws H=>∃(j:Nat) (cv:V) (B:List (List V)),ws = [cv,Gm a c f g,fI 2,fI j]/\H = [.buf B] /\
  ((j=0/\cv = .mr 1 0 0 0/\B=List.replicate (a.length+c.length) [.int .u8 0])\/(j=1/\cv = .mr 1 0 0 a.length/\B=bs a++List.replicate c.length [.int .u8 0])\/(j=2/\cv = .ms 1 0 0 (a.length+c.length) false/\B=bs (a++c)))/\mm=2-j,
  .at 2 ⟨0,_,_,rfl,rfl,.inl ⟨rfl,rfl,rfl⟩,rfl⟩,?_⟩⟩
 rintro mm ws H ⟨j,cv,B,rfl,rfl,hj,rfl⟩;rcases hj with⟨rfl,rfl,rfl⟩ | ⟨rfl,rfl,rfl⟩ | ⟨rfl,rfl,rfl⟩
 focus
  conv=>whnf
  refine⟨_,⟨by decide,rfl⟩,?_⟩
  conv=>whnf
  refine⟨fun hx=>?_,fun hx=>⟨by rw[List.length_replicate,hla]; omega,?_⟩⟩
  focus
   have ea:a = []:=List.length_eq_zero_iff.1 (by rw[<-hla,hx]; rfl)
   subst ea
   conv=>whnf
   refine .go [0] rfl 1 (by omega) ⟨1,_,_,rfl,rfl,.inr (.inl ⟨rfl,rfl,?_⟩),rfl⟩
   show List.replicate (0+c.length) [V.int .u8 0] = []++_
   rw[Nat.zero_add,List.nil_append]
  have hap:0<a.length:=by rw[<-hla]; exact List.length_pos_iff.2 hx
  conv=>whnf
  refine .sub _ _ (.cons (VSub.mr (sz:=1) (id:=0) (off:=0) (len:=0+(bs a).length) (by omega)) (VSubs.refl _)) (HSub.refl _) (.go [0] rfl 1 (by omega) ⟨1,_,_,rfl,rfl,.inr (.inl ⟨rfl,?_,?_⟩),rfl⟩)
  focus
   show V.mr 1 0 0 (0+(bs a).length)=_
   rw[hla,Nat.zero_add]
  focus
   show List.take 0 (List.replicate (a.length+c.length) [V.int .u8 0])++bs a++List.drop (0+0+(bs a).length) (List.replicate (a.length+c.length) [V.int .u8 0])=_
   rw[List.take_zero,List.nil_append,List.drop_replicate,hla];congr 2; omega
 focus
  conv=>whnf
  refine⟨_,⟨by decide,rfl⟩,?_⟩
  conv=>whnf
  refine⟨fun hx=>?_,fun hx=>⟨by rw[aD,List.length_replicate,hla,hlc]; omega,?_⟩⟩
  focus
   have ec:c = []:=List.length_eq_zero_iff.1 (by rw[<-hlc,hx]; rfl)
   subst ec
   conv=>whnf
   refine .sub _ _ (.cons (VSub.mrMs 1 0 0 a.length) (VSubs.refl _)) (HSub.refl _) (.go [0] rfl 0 (by omega) ⟨2,_,_,rfl,rfl,.inr (.inr ⟨rfl,rfl,?_⟩),rfl⟩)
   show bs a ++ []=bs (a ++ [])
   rw[List.append_nil,List.append_nil]
  conv=>whnf
  refine .go [0] rfl 0 (by omega) ⟨2,_,_,rfl,rfl,.inr (.inr ⟨rfl,?_,?_⟩),rfl⟩
  focus
   show V.ms 1 0 0 (a.length+(bs c).length) false=_
   rw[hlc]
  focus
   show List.take (0+a.length) (bs a++List.replicate c.length [V.int .u8 0])++bs c++List.drop (0+a.length+(bs c).length) (bs a++List.replicate c.length [V.int .u8 0])=_
   rw[Nat.zero_add,List.take_append_of_le_length (by omega),List.take_of_length_le (by omega),List.drop_of_length_le (by rw[aD,List.length_replicate]; omega),List.append_nil,iA]
 conv=>whnf
 rw[aD]at h;exact⟨[0],rfl,.done [0] rfl h⟩
theorem aQ {n:Int} (h:-9223372036854775808<=n/\n<=9223372036854775807):IntKind.i64.wrap n=n:=by rw[IntKind.wrap_i64]; omega
theorem Dh {s:List UInt8} {i:Nat} {c:UInt8} {r:List UInt8} (h:s.drop i=c::r):i<s.length/\s[i]? = some c /\ ∀k,s[i+1+k]? = r[k]?:=by
 have hl:i<s.length:=by
  rcases Nat.lt_or_ge i s.length with h1 | h1
  . exact h1
  . rw[List.drop_of_length_le h1]at h; cases h
 have e:∀k,s[i+k]? = (c::r)[k]?:=fun k=>by rw[<-h,List.getElem?_drop]
 exact⟨hl,by simpa using e 0,fun k=>by have:=e (k+1); rw[show i+1+k=i+(k+1) by omega,this]; simp⟩
set_option maxRecDepth 10000 in
theorem vi {s:List UInt8} (hs:s.length<1000000000000000000) (h:Q (.bool (u8 s)) []):ACall Tryz.prog 146 0 [.str s] [] Q:=by
 refine ad Tryz.func146 0 rfl (aA rfl) ?_
 conv=>whnf
 refine⟨⟨[0,3],fun m vs H=>∃i:Nat,vs = [.str s,fI i]/\H = []/\u8 s=u8 (s.drop i)/\i<=s.length/\m=s.length-i,.at _ ⟨0,rfl,rfl,by simp,Nat.zero_le _,rfl⟩,?_⟩⟩
 rintro m vs H ⟨i,rfl,rfl,hu,hi,rfl⟩
 conv=>whnf
 refine ac (fun c1=>?_) (fun c1=>?_)<;>try rw[c1]<;>conv=>whnf
 rotate_left
 focus
  have c1' := aG c1;rw[List.drop_of_length_le (by omega),Ke]at hu
  rw[hu]at h;exact⟨[],rfl,h⟩
 have c1' := aB c1;obtain⟨c,r,hd⟩:∃c r,s.drop i=c::r:=by
  cases hx:s.drop i with
  | nil=>have:=List.drop_eq_nil_iff.1 hx; omega
  | cons c r=>exact⟨c,r,rfl⟩
 obtain⟨h1,h2,h3⟩:=Dh hd;have hlr:r.length=s.length-i-1:=by have:=congrArg List.length hd; rw[List.length_drop,List.length_cons]at this; omega
 rw[hd,CL]at hu;have hc:c.toNat<256:=c.toNat_lt;refine⟨c,⟨by omega,h2⟩,?_⟩
 conv=>whnf
 rw[aQ (n:=(c.toNat:Int)) (by omega)]
 unfold dN at hu;refine ac (fun c2=>?_) (fun c2=>?_)<;>try rw[c2]<;>conv=>whnf
 focus
  have c2' := aB c2;rw[if_pos c2']at hu;have hu:u8 s=u8 r:=hu;refine .go [] rfl (s.length-(i+1)) (by omega) ⟨i+1,?_,rfl,?_,by omega,rfl⟩
  . show [V.str s,V.int .i64 (IntKind.i64.wrap ((i:Int)+1))]=_
    rw[aQ (by omega)]; rfl
  . have:s.drop (i+1)=r:=by rw[<-List.drop_drop,hd]; rfl
    rw[hu,this]
 have c2' := aG c2;rw[if_neg c2']at hu;by_cases a1:(c.toNat:Int)<192
 focus
  rw[show kq c.toNat=none by unfold kq; rw[if_pos a1]]at hu
  have hu:u8 s=false:=hu;rw[hu]at h;rw[show decide (192<=(c.toNat:Int))=false by simp; omega]
  conv=>whnf
  rw[show decide (224<=(c.toNat:Int))=false by simp; omega]
  conv=>whnf
  rw[show decide (240<=(c.toNat:Int))=false by simp; omega]
  conv=>whnf
  exact⟨[],rfl,h⟩
 rw[show decide (192<=(c.toNat:Int))=true by simp; omega]
 conv=>whnf
 by_cases a2:(c.toNat:Int)<224
 focus
  rw[show decide ((c.toNat:Int)<224)=true by simp; omega]
  conv=>whnf
  have hl:kq (c.toNat:Int)=some (1,128,(c.toNat:Int)-192):=by unfold kq; rw[if_neg a1,if_pos a2]
  rw[hl]at hu;rw[aQ (n:=(c.toNat:Int)-192) (by omega),aQ (n:=(i:Int)+2) (by omega)]
  refine ac (fun b1=>?_) (fun b1=>?_)<;>try rw[b1]<;>conv=>whnf
  focus
   have b1' := aB b1;have hu:u8 s=false:=by rw[hu]; simp only[if_pos (show r.length<1 by omega)]
   rw[hu]at h;exact⟨[],rfl,h⟩
  have b1' := aG b1;simp only[if_neg (show ¬r.length<1 by omega)]at hu
  have hv0b:0<=(c.toNat:Int)-192/\(c.toNat:Int)-192<32:=by omega
  generalize (c.toNat:Int)-192=v0 at *;refine⟨⟨[0,3,5,6,7,8],fun m vs H=>∃(k:Nat) (v:Int),vs = [.str s,fI i,fI 2,fI 128,fI v,fI ((k+1:Nat):Int)]/\H = []/\k<=1/\cv r v0 k=some v/\m=1-k,.at _ ⟨0,v0,rfl,rfl,Nat.zero_le _,rfl,rfl⟩,?_⟩⟩
  rintro m vs H ⟨k,v,rfl,rfl,hk,hcv,rfl⟩
  conv=>whnf
  refine ac (fun b2=>?_) (fun b2=>?_)<;>try rw[b2]<;>conv=>whnf
  focus
   have b2' := aB b2;have hb:=nH hv0b hcv;have hv:v<131072:=by
    have hk3:k=0\/k=1\/k=2:=by omega
    rcases hk3 with rfl | rfl | rfl<;>simp at hb<;>omega
   have hkr:k<r.length:=by omega
   have hg:r[k]? = some r[k]:=aS hkr;generalize r[k]=d at *;have hdl:d.toNat<256:=d.toNat_lt;rw[aQ (n:=(i:Int)+((k+1:Nat):Int)) (by omega)]
   refine⟨d,⟨by omega,by rw[show((i:Int)+((k+1:Nat):Int)).toNat=i+1+k by omega,h3 k,hg]⟩,?_⟩
   conv=>whnf
   rw[aQ (n:=(d.toNat:Int)) (by omega)]
   have bad:¬(128<=d.toNat/\d.toNat<192)->u8 s=false:=fun hbad=>by
    have e:cv r v0 (k+1)=none:=by simp only[cv,hcv,hg,if_neg hbad]
    rw[hu,kg e (m:=1) (by omega)]
   by_cases e1:(d.toNat:Int)<128
   focus
    rw[bad (by omega)]at h
    rw[show decide ((d.toNat:Int)<128)=true by simp; omega]
    conv=>whnf
    exact⟨[],rfl,h⟩
   rw[show decide ((d.toNat:Int)<128)=false by simp; omega]
   conv=>whnf
   by_cases e2:192<=(d.toNat:Int)
   focus
    rw[bad (by omega)]at h
    rw[show decide (192<=(d.toNat:Int))=true by simp; omega]
    conv=>whnf
    exact⟨[],rfl,h⟩
   rw[show decide (192<=(d.toNat:Int))=false by simp; omega]
   conv=>whnf
   refine .go [] rfl (1-(k+1)) (by omega) ⟨k+1,64*v+d.toNat-128,?_,rfl,by omega,by simp only[cv,hcv,hg]; rw[if_pos (by omega)],rfl⟩
   show [V.str s,fI i,fI 2,fI 128,V.int .i64 (IntKind.i64.wrap (IntKind.i64.wrap (IntKind.i64.wrap (64*v)+d.toNat)-128)),V.int .i64 (IntKind.i64.wrap (((k+1:Nat):Int)+1))]=_
   rw[aQ (n:=64*v) (by omega),aQ (n:=64*v+d.toNat) (by omega),aQ (n:=64*v+d.toNat-128) (by omega),aQ (n:=((k+1:Nat):Int)+1) (by omega)]; rfl
  have b2' := aG b2;have hkn:k=1:=by omega
  subst hkn;rw[hcv]at hu;have hdr:s.drop (i+2)=r.drop 1:=by
   rw[show i+2=i+1+1 by omega,<-List.drop_drop,show s.drop (i+1)=r by rw[<-List.drop_drop,hd]; rfl]
  have yes:jj v 128=true->u8 s=false:=fun hb=>by rw[hu]; simp only[hb,if_true]
  have no:jj v 128=false->u8 s=u8 (r.drop 1):=fun hb=>by rw[hu]; simp only[hb,Bool.false_eq_true,if_false]
  unfold jj at yes no;refine ac (fun d1=>?_) (fun d1=>?_)<;>rw[d1]at yes no<;>try rw[d1]<;>conv=>whnf
  focus rw[yes rfl]at h; exact⟨[],rfl,h⟩
  refine ac (fun d2=>?_) (fun d2=>?_)<;>rw[d2]at yes no<;>try rw[d2]<;>conv=>whnf
  focus rw[yes rfl]at h; exact⟨[],rfl,h⟩
  refine ac (fun d3=>?_) (fun d3=>?_)<;>rw[d3]at yes no<;>try rw[d3]<;>conv=>whnf
  focus
   refine ac (fun d4=>?_) (fun d4=>?_)<;>rw[d4]at yes no<;>try rw[d4]<;>conv=>whnf
   focus rw[yes rfl]at h; exact⟨[],rfl,h⟩
  all_goals
   refine .go [] rfl (s.length-(i+2)) (by omega) ⟨i+2,?_,rfl,by rw[no rfl,hdr],by omega,rfl⟩
   show [V.str s,V.int .i64 (IntKind.i64.wrap ((i:Int)+2))]=_
   rw[aQ (by omega)]; rfl
 rw[show decide ((c.toNat:Int)<224)=false by simp; omega]
 conv=>whnf
 rw[show decide (224<=(c.toNat:Int))=true by simp; omega]
 conv=>whnf
 by_cases a3:(c.toNat:Int)<240
 focus
  rw[show decide ((c.toNat:Int)<240)=true by simp; omega]
  conv=>whnf
  have hl:kq (c.toNat:Int)=some (2,2048,(c.toNat:Int)-224):=by unfold kq; rw[if_neg a1,if_neg a2,if_pos a3]
  rw[hl]at hu;rw[aQ (n:=(c.toNat:Int)-224) (by omega),aQ (n:=(i:Int)+3) (by omega)]
  refine ac (fun b1=>?_) (fun b1=>?_)<;>try rw[b1]<;>conv=>whnf
  focus
   have b1' := aB b1;have hu:u8 s=false:=by rw[hu]; simp only[if_pos (show r.length<2 by omega)]
   rw[hu]at h;exact⟨[],rfl,h⟩
  have b1' := aG b1;simp only[if_neg (show ¬r.length<2 by omega)]at hu
  have hv0b:0<=(c.toNat:Int)-224/\(c.toNat:Int)-224<32:=by omega
  generalize (c.toNat:Int)-224=v0 at *;refine⟨⟨[0,3,5,6,7,8],fun m vs H=>∃(k:Nat) (v:Int),vs = [.str s,fI i,fI 3,fI 2048,fI v,fI ((k+1:Nat):Int)]/\H = []/\k<=2/\cv r v0 k=some v/\m=2-k,.at _ ⟨0,v0,rfl,rfl,Nat.zero_le _,rfl,rfl⟩,?_⟩⟩
  rintro m vs H ⟨k,v,rfl,rfl,hk,hcv,rfl⟩
  conv=>whnf
  refine ac (fun b2=>?_) (fun b2=>?_)<;>try rw[b2]<;>conv=>whnf
  focus
   have b2' := aB b2;have hb:=nH hv0b hcv;have hv:v<131072:=by
    have hk3:k=0\/k=1\/k=2:=by omega
    rcases hk3 with rfl | rfl | rfl<;>simp at hb<;>omega
   have hkr:k<r.length:=by omega
   have hg:r[k]? = some r[k]:=aS hkr;generalize r[k]=d at *;have hdl:d.toNat<256:=d.toNat_lt;rw[aQ (n:=(i:Int)+((k+1:Nat):Int)) (by omega)]
   refine⟨d,⟨by omega,by rw[show((i:Int)+((k+1:Nat):Int)).toNat=i+1+k by omega,h3 k,hg]⟩,?_⟩
   conv=>whnf
   rw[aQ (n:=(d.toNat:Int)) (by omega)]
   have bad:¬(128<=d.toNat/\d.toNat<192)->u8 s=false:=fun hbad=>by
    have e:cv r v0 (k+1)=none:=by simp only[cv,hcv,hg,if_neg hbad]
    rw[hu,kg e (m:=2) (by omega)]
   by_cases e1:(d.toNat:Int)<128
   focus
    rw[bad (by omega)]at h
    rw[show decide ((d.toNat:Int)<128)=true by simp; omega]
    conv=>whnf
    exact⟨[],rfl,h⟩
   rw[show decide ((d.toNat:Int)<128)=false by simp; omega]
   conv=>whnf
   by_cases e2:192<=(d.toNat:Int)
   focus
    rw[bad (by omega)]at h
    rw[show decide (192<=(d.toNat:Int))=true by simp; omega]
    conv=>whnf
    exact⟨[],rfl,h⟩
   rw[show decide (192<=(d.toNat:Int))=false by simp; omega]
   conv=>whnf
   refine .go [] rfl (2-(k+1)) (by omega) ⟨k+1,64*v+d.toNat-128,?_,rfl,by omega,by simp only[cv,hcv,hg]; rw[if_pos (by omega)],rfl⟩
   show [V.str s,fI i,fI 3,fI 2048,V.int .i64 (IntKind.i64.wrap (IntKind.i64.wrap (IntKind.i64.wrap (64*v)+d.toNat)-128)),V.int .i64 (IntKind.i64.wrap (((k+1:Nat):Int)+1))]=_
   rw[aQ (n:=64*v) (by omega),aQ (n:=64*v+d.toNat) (by omega),aQ (n:=64*v+d.toNat-128) (by omega),aQ (n:=((k+1:Nat):Int)+1) (by omega)]; rfl
  have b2' := aG b2;have hkn:k=2:=by omega
  subst hkn;rw[hcv]at hu;have hdr:s.drop (i+3)=r.drop 2:=by
   rw[show i+3=i+1+2 by omega,<-List.drop_drop,show s.drop (i+1)=r by rw[<-List.drop_drop,hd]; rfl]
  have yes:jj v 2048=true->u8 s=false:=fun hb=>by rw[hu]; simp only[hb,if_true]
  have no:jj v 2048=false->u8 s=u8 (r.drop 2):=fun hb=>by rw[hu]; simp only[hb,Bool.false_eq_true,if_false]
  unfold jj at yes no;refine ac (fun d1=>?_) (fun d1=>?_)<;>rw[d1]at yes no<;>try rw[d1]<;>conv=>whnf
  focus rw[yes rfl]at h; exact⟨[],rfl,h⟩
  refine ac (fun d2=>?_) (fun d2=>?_)<;>rw[d2]at yes no<;>try rw[d2]<;>conv=>whnf
  focus rw[yes rfl]at h; exact⟨[],rfl,h⟩
  refine ac (fun d3=>?_) (fun d3=>?_)<;>rw[d3]at yes no<;>try rw[d3]<;>conv=>whnf
  focus
   refine ac (fun d4=>?_) (fun d4=>?_)<;>rw[d4]at yes no<;>try rw[d4]<;>conv=>whnf
   focus rw[yes rfl]at h; exact⟨[],rfl,h⟩
  all_goals
   refine .go [] rfl (s.length-(i+3)) (by omega) ⟨i+3,?_,rfl,by rw[no rfl,hdr],by omega,rfl⟩
   show [V.str s,V.int .i64 (IntKind.i64.wrap ((i:Int)+3))]=_
   rw[aQ (by omega)]; rfl
 rw[show decide ((c.toNat:Int)<240)=false by simp; omega]
 conv=>whnf
 rw[show decide (240<=(c.toNat:Int))=true by simp; omega]
 conv=>whnf
 by_cases a4:(c.toNat:Int)<248
 focus
  rw[show decide ((c.toNat:Int)<248)=true by simp; omega]
  conv=>whnf
  have hl:kq (c.toNat:Int)=some (3,65536,(c.toNat:Int)-240):=by unfold kq; rw[if_neg a1,if_neg a2,if_neg a3,if_pos a4]
  rw[hl]at hu;rw[aQ (n:=(c.toNat:Int)-240) (by omega),aQ (n:=(i:Int)+4) (by omega)]
  refine ac (fun b1=>?_) (fun b1=>?_)<;>try rw[b1]<;>conv=>whnf
  focus
   have b1' := aB b1;have hu:u8 s=false:=by rw[hu]; simp only[if_pos (show r.length<3 by omega)]
   rw[hu]at h;exact⟨[],rfl,h⟩
  have b1' := aG b1;simp only[if_neg (show ¬r.length<3 by omega)]at hu
  have hv0b:0<=(c.toNat:Int)-240/\(c.toNat:Int)-240<32:=by omega
  generalize (c.toNat:Int)-240=v0 at *;refine⟨⟨[0,3,5,6,7,8],fun m vs H=>∃(k:Nat) (v:Int),vs = [.str s,fI i,fI 4,fI 65536,fI v,fI ((k+1:Nat):Int)]/\H = []/\k<=3/\cv r v0 k=some v/\m=3-k,.at _ ⟨0,v0,rfl,rfl,Nat.zero_le _,rfl,rfl⟩,?_⟩⟩
  rintro m vs H ⟨k,v,rfl,rfl,hk,hcv,rfl⟩
  conv=>whnf
  refine ac (fun b2=>?_) (fun b2=>?_)<;>try rw[b2]<;>conv=>whnf
  focus
   have b2' := aB b2;have hb:=nH hv0b hcv;have hv:v<131072:=by
    have hk3:k=0\/k=1\/k=2:=by omega
    rcases hk3 with rfl | rfl | rfl<;>simp at hb<;>omega
   have hkr:k<r.length:=by omega
   have hg:r[k]? = some r[k]:=aS hkr;generalize r[k]=d at *;have hdl:d.toNat<256:=d.toNat_lt;rw[aQ (n:=(i:Int)+((k+1:Nat):Int)) (by omega)]
   refine⟨d,⟨by omega,by rw[show((i:Int)+((k+1:Nat):Int)).toNat=i+1+k by omega,h3 k,hg]⟩,?_⟩
   conv=>whnf
   rw[aQ (n:=(d.toNat:Int)) (by omega)]
   have bad:¬(128<=d.toNat/\d.toNat<192)->u8 s=false:=fun hbad=>by
    have e:cv r v0 (k+1)=none:=by simp only[cv,hcv,hg,if_neg hbad]
    rw[hu,kg e (m:=3) (by omega)]
   by_cases e1:(d.toNat:Int)<128
   focus
    rw[bad (by omega)]at h
    rw[show decide ((d.toNat:Int)<128)=true by simp; omega]
    conv=>whnf
    exact⟨[],rfl,h⟩
   rw[show decide ((d.toNat:Int)<128)=false by simp; omega]
   conv=>whnf
   by_cases e2:192<=(d.toNat:Int)
   focus
    rw[bad (by omega)]at h
    rw[show decide (192<=(d.toNat:Int))=true by simp; omega]
    conv=>whnf
    exact⟨[],rfl,h⟩
   rw[show decide (192<=(d.toNat:Int))=false by simp; omega]
   conv=>whnf
   refine .go [] rfl (3-(k+1)) (by omega) ⟨k+1,64*v+d.toNat-128,?_,rfl,by omega,by simp only[cv,hcv,hg]; rw[if_pos (by omega)],rfl⟩
   show [V.str s,fI i,fI 4,fI 65536,V.int .i64 (IntKind.i64.wrap (IntKind.i64.wrap (IntKind.i64.wrap (64*v)+d.toNat)-128)),V.int .i64 (IntKind.i64.wrap (((k+1:Nat):Int)+1))]=_
   rw[aQ (n:=64*v) (by omega),aQ (n:=64*v+d.toNat) (by omega),aQ (n:=64*v+d.toNat-128) (by omega),aQ (n:=((k+1:Nat):Int)+1) (by omega)]; rfl
  have b2' := aG b2;have hkn:k=3:=by omega
  subst hkn;rw[hcv]at hu;have hdr:s.drop (i+4)=r.drop 3:=by
   rw[show i+4=i+1+3 by omega,<-List.drop_drop,show s.drop (i+1)=r by rw[<-List.drop_drop,hd]; rfl]
  have yes:jj v 65536=true->u8 s=false:=fun hb=>by rw[hu]; simp only[hb,if_true]
  have no:jj v 65536=false->u8 s=u8 (r.drop 3):=fun hb=>by rw[hu]; simp only[hb,Bool.false_eq_true,if_false]
  unfold jj at yes no;refine ac (fun d1=>?_) (fun d1=>?_)<;>rw[d1]at yes no<;>try rw[d1]<;>conv=>whnf
  focus rw[yes rfl]at h; exact⟨[],rfl,h⟩
  refine ac (fun d2=>?_) (fun d2=>?_)<;>rw[d2]at yes no<;>try rw[d2]<;>conv=>whnf
  focus rw[yes rfl]at h; exact⟨[],rfl,h⟩
  refine ac (fun d3=>?_) (fun d3=>?_)<;>rw[d3]at yes no<;>try rw[d3]<;>conv=>whnf
  focus
   refine ac (fun d4=>?_) (fun d4=>?_)<;>rw[d4]at yes no<;>try rw[d4]<;>conv=>whnf
   focus rw[yes rfl]at h; exact⟨[],rfl,h⟩
  all_goals
   refine .go [] rfl (s.length-(i+4)) (by omega) ⟨i+4,?_,rfl,by rw[no rfl,hdr],by omega,rfl⟩
   show [V.str s,V.int .i64 (IntKind.i64.wrap ((i:Int)+4))]=_
   rw[aQ (by omega)]; rfl
 rw[show decide ((c.toNat:Int)<248)=false by simp; omega]
 conv=>whnf
 rw[show kq c.toNat=none by unfold kq; rw[if_neg a1,if_neg a2,if_neg a3,if_neg a4]]at hu
 have hu:u8 s=false:=hu;rw[hu]at h;exact⟨[],rfl,h⟩
def BD (v:Val):V:=.agg [.int .i64 v.k,.int .i64 v.n,.str v.t]
def AK (c:Col):V:=.agg [.str c.n,.int .i64 c.k,.bool c.o]
theorem Aj {v:Val} (ht:v.t.length<1000000000000000000) (h:Q (.bool (fK v)) []):ACall Tryz.prog 107 0 [BD v] [] Q:=by
 refine ad Tryz.func107 0 rfl (aA rfl) ?_
 conv=>whnf
 unfold fK at h;refine ac (fun c1=>?_) (fun c1=>?_)<;>try rw[c1]<;>conv=>whnf
 focus
  rw[if_pos (aB c1)]at h;refine ac (fun c2=>?_) (fun c2=>?_)<;>rw[c2]at h<;>try rw[c2]<;>conv=>whnf
  all_goals exact⟨[],rfl,h⟩
 rw[if_neg (aG c1)]at h;refine ac (fun c2=>?_) (fun c2=>?_)<;>try rw[c2]<;>conv=>whnf
 focus
  rw[if_pos (aB c2)]at h;refine ac (fun c3=>?_) (fun c3=>?_)<;>rw[c3]at h<;>try rw[c3]<;>conv=>whnf
  rotate_left
  focus exact⟨[],rfl,h⟩
  refine ac (fun c4=>?_) (fun c4=>?_)<;>rw[c4]at h<;>try rw[c4]<;>conv=>whnf
  all_goals exact⟨[],rfl,h⟩
 rw[if_neg (aG c2)]at h;refine ac (fun c3=>?_) (fun c3=>?_)<;>try rw[c3]<;>conv=>whnf
 focus
  rw[if_pos (aB c3)]at h;exact⟨[],rfl,h⟩
 rw[if_neg (aG c3)]at h;refine ac (fun c4=>?_) (fun c4=>?_)<;>try rw[c4]<;>conv=>whnf
 focus
  rw[if_pos (aB c4)]at h;refine .pure (vi ht ⟨rfl,?_⟩)
  conv=>whnf
  cases c5:u8 v.t<;>rw[c5]at h<;>conv=>whnf
  focus exact⟨[],rfl,h⟩
  refine ac (fun c6=>?_) (fun c6=>?_)<;>rw[c6]at h<;>try rw[c6]<;>conv=>whnf
  all_goals exact⟨[],rfl,h⟩
 rw[if_neg (aG c4)]at h;refine ac (fun c5=>?_) (fun c5=>?_)<;>try rw[c5]<;>conv=>whnf
 focus
  rw[if_pos (aB c5)]at h;refine ac (fun c6=>?_) (fun c6=>?_)<;>rw[c6]at h<;>try rw[c6]<;>conv=>whnf
  all_goals exact⟨[],rfl,h⟩
 rw[if_neg (aG c5)]at h;exact⟨[],rfl,h⟩
theorem qr {c:Col} {v:Val} (ht:v.t.length<1000000000000000000) (h:Q (.bool (bG c v)) []):ACall Tryz.prog 64 0 [AK c,BD v] [] Q:=by
 refine ad Tryz.func64 0 rfl (aA rfl) ?_
 conv=>whnf
 unfold bG at h;refine .pure (Aj ht ⟨rfl,?_⟩)
 conv=>whnf
 cases c1:fK v<;>rw[c1]at h<;>conv=>whnf
 focus exact⟨[],rfl,h⟩
 refine ac (fun c2=>?_) (fun c2=>?_)<;>rw[c2]at h<;>try rw[c2]<;>conv=>whnf
 focus exact⟨[],rfl,h⟩
 refine ac (fun c3=>?_) (fun c3=>?_)<;>rw[c3]at h<;>try rw[c3]<;>conv=>whnf
 all_goals exact⟨[],rfl,h⟩
theorem mG {v:Val} (hk:-9223372036854775808<=v.k/\v.k<=9223372036854775807) (h:Q (BD (iI v)) []):ACall Tryz.prog 108 0 [BD v] [] Q:=by
 refine ad Tryz.func108 0 rfl (aA rfl) ?_
 conv=>whnf
 unfold iI at h;have hn:kV v.k=if v.k<0 then IntKind.i64.wrap (0-IntKind.i64.wrap (v.k+1))else v.k:=rfl
 refine ac (fun c1=>?_) (fun c1=>?_)<;>try rw[c1]<;>conv=>whnf
 focus
  rw[if_pos (aB c1)]at hn;rw[<-hn];rw[show iH v.k=(kV v.k).tmod 5 from rfl]at h
 rotate_left
 focus
  rw[if_neg (aG c1)]at hn;rw[show iH v.k=(kV v.k).tmod 5 from rfl,hn]at h
 all_goals
  refine⟨by decide,?_⟩
  conv=>whnf
  have h40:px v.t=if 40<v.t.length then v.t.take 40 else v.t:=rfl
  refine ac (fun c2=>?_) (fun c2=>?_)<;>try rw[c2]<;>conv=>whnf
  focus
   have c2' := aB c2;refine⟨⟨by decide,by omega⟩,?_⟩
   conv=>whnf
   rw[if_pos (by omega)]at h40
  rotate_left
  focus
   have c2' := aG c2;rw[if_neg (by omega)]at h40
  all_goals
   refine ac (fun d1=>?_) (fun d1=>?_)<;>try rw[d1]<;>conv=>whnf
   focus
    rw[if_pos (aB d1)]at h;refine⟨by decide,?_⟩
    conv=>whnf
    by_cases e:v.n.tmod 2=0
    . rw[if_pos e]at h;rw[show decide (v.n.tmod 2=0)=true by simp[e]]
      conv=>whnf
      exact⟨[],rfl,h⟩
    . rw[if_neg e]at h;rw[show decide (v.n.tmod 2=0)=false by simp[e]]
      conv=>whnf
      exact⟨[],rfl,h⟩
   rw[if_neg (aG d1)]at h;refine ac (fun d2=>?_) (fun d2=>?_)<;>try rw[d2]<;>conv=>whnf
   focus
    rw[if_pos (aB d2)]at h;exact⟨[],rfl,h⟩
   rw[if_neg (aG d2)]at h;refine ac (fun d3=>?_) (fun d3=>?_)<;>try rw[d3]<;>conv=>whnf
   focus
    rw[if_pos (aB d3)]at h;refine .pure (vi (by first | (rw[List.length_take]; have:(40:Int).toNat=40:=rfl; omega) | omega) ⟨rfl,?_⟩)
    rw[h40]at h
    conv=>whnf
    first
     | cases d5:u8 (v.t.take (40:Int).toNat)<;>rw[show u8 (v.t.take 40)=u8 (v.t.take (40:Int).toNat)from rfl,d5]at h<;>conv=>whnf
     | cases d5:u8 v.t<;>rw[d5]at h<;>conv=>whnf
    all_goals exact⟨[],rfl,h⟩
   rw[if_neg (aG d3)]at h;refine ac (fun d4=>?_) (fun d4=>?_)<;>try rw[d4]<;>conv=>whnf
   focus
    rw[if_pos (aB d4),h40]at h;exact⟨[],rfl,h⟩
   rw[if_neg (aG d4)]at h;exact⟨[],rfl,h⟩
theorem Gs (d e:Val):(decide (d.k=e.k)&&(decide (d.n=e.n)&&(decide (d.t=e.t)&&true)))=decide (d=e):=by
 cases d; cases e;simp[Val.mk.injEq]
theorem n9 (z id:Nat):VSub .nils (.ms z id 0 0 false):=VSub.ms0 z id 0 false
theorem xJ {l:List Col} {keys:Int} {vs:List Val} {f:Bool} (hl:l.length<1000000) (hk:∀c∈l,-9223372036854775808<=c.k/\c.k<=9223372036854775807) (h:Q (.sl 3 (ah (fN l vs)) false) []) :
 ACall Tryz.prog 66 0 [sch l keys,.sl 3 (ah vs) f] [] Q:=by
 refine ACall.ret (ad Tryz.func66 0 rfl (aA rfl) ?_)
 conv=>whnf
 have hlk:=aw l;have hvl:=aC vs
 refine⟨⟨[1,2,5,6],fun m ws H=>∃i:Nat,ws = [.sl 3 (ah vs) f,.ptr 0 0,.ms 3 1 0 (ah (iQ l vs i)).length false,fI i] /\
  H = [.cells [.sl 3 (cols l) false,fI keys],.buf (ah (iQ l vs i))]/\i<=l.length/\m=l.length-i,
  .frz (l.length+1) (.adopt (.sub _ _ (.cons (VSub.refl _) (.cons (VSub.refl _) (.cons (n9 3 1) (VSubs.refl _)))) (HSub.refl _) (.go [0,1] rfl l.length (by omega) ⟨0,rfl,rfl,by omega,rfl⟩))),?_⟩⟩
 rintro m ws H ⟨i,rfl,rfl,hi,rfl⟩
 conv=>whnf
 refine ac (fun c=>?_) (fun c=>?_)<;>try rw[c]<;>conv=>whnf
 rotate_left
 focus
  have c' := aG c;have hi' : i=l.length:=by omega
  subst hi';refine⟨[1],rfl,.frz 0 rfl (by repeat (first | exact trivial | refine And.intro (Nat.le_of_eq (Nat.zero_add _)) ?_)) (.done [] rfl ?_)⟩
  show Q (.sl 3 (List.take (ah (fN l vs)).length (ah (fN l vs))) false) []
  rw[List.take_length]; exact h
 have c' := aB c;have hlt:i<l.length:=by omega
 have hget:l[i]? = some l[i]:=aS hlt;generalize l[i]=d at *;have hlen:(ah (iQ l vs i)).length=i:=by rw[aC,oA l vs i hi]
 have hsnoc:ah (iQ l vs (i+1))=ah (iQ l vs i) ++ [cP (kG d (vs.getD i val0))]:=by
  simp only[iQ,hget]; simp[ah]
 have hdk:=hk d (List.mem_of_getElem? hget);refine ac (fun c2=>?_) (fun c2=>?_)<;>try rw[c2]<;>conv=>whnf
 focus
  have c2' := aB c2;have hv:vs[i]? = some (vs.getD i val0):=by
   have:i<vs.length:=by omega
   simp[List.getD,aS this]
  generalize vs.getD i val0=v at *;refine⟨_,⟨by omega,bU hv⟩,?_⟩
  conv=>whnf
  refine⟨_,⟨by omega,bj hget⟩,?_⟩
  conv=>whnf
  cases e1:d.o
  . conv=>whnf
    have hX:kG d v=iI ⟨d.k,v.n,v.t⟩:=by unfold kG; rw[if_neg (by simp[e1])]
    rw[hX]at hsnoc;refine .pure (mG (v:=⟨d.k,(v).n,(v).t⟩) hdk ⟨rfl,?_⟩)
    conv=>whnf
    refine⟨Nat.le_refl _,?_⟩
    conv=>whnf
    refine⟨rfl,?_⟩
    conv=>whnf
    refine⟨Nat.le_trans (Nat.mul_le_mul_right _ (by rw[aD,List.length_take,List.drop_zero,hlen]; exact Nat.add_le_add (Nat.le_refl i) (Nat.min_le_left _ _))) (show(i+1)*32<=70368744177664 by omega),?_⟩
    conv=>whnf
    refine .go [0,5] rfl (l.length-(i+1)) (by omega) ⟨i+1,?_,?_,by omega,rfl⟩
    . show [V.sl 3 (ah vs) f,V.ptr 0 0,V.ms 3 1 0 (ah (iQ l vs i) ++ [cP (iI ⟨d.k,(v).n,(v).t⟩)]).length false,V.int .i64 (IntKind.i64.wrap ((i:Int)+1))]=_
      rw[hsnoc,aQ (by omega)]; rfl
    . show [O.cells [.sl 3 (cols l) false,fI keys],O.buf (ah (iQ l vs i) ++ [cP (iI ⟨d.k,(v).n,(v).t⟩)])]=_
      rw[hsnoc]
  . conv=>whnf
    refine⟨by decide,?_⟩
    conv=>whnf
    by_cases e2:v.k.tmod 3=0
    . rw[show decide (v.k.tmod 3=0)=true by simp[e2]]
      conv=>whnf
      have hX:kG d v=val0:=by unfold kG; rw[if_pos ⟨e1,e2⟩]
      rw[hX]at hsnoc;refine⟨Nat.le_refl _,?_⟩
      conv=>whnf
      refine⟨rfl,?_⟩
      conv=>whnf
      refine⟨Nat.le_trans (Nat.mul_le_mul_right _ (by rw[aD,List.length_take,List.drop_zero,hlen]; exact Nat.add_le_add (Nat.le_refl i) (Nat.min_le_left _ _))) (show(i+1)*32<=70368744177664 by omega),?_⟩
      conv=>whnf
      refine .go [0,5] rfl (l.length-(i+1)) (by omega) ⟨i+1,?_,?_,by omega,rfl⟩
      . show [V.sl 3 (ah vs) f,V.ptr 0 0,V.ms 3 1 0 (ah (iQ l vs i) ++ [cP val0]).length false,V.int .i64 (IntKind.i64.wrap ((i:Int)+1))]=_
        rw[hsnoc,aQ (by omega)]; rfl
      . show [O.cells [.sl 3 (cols l) false,fI keys],O.buf (ah (iQ l vs i) ++ [cP val0])]=_
        rw[hsnoc]
    . rw[show decide (v.k.tmod 3=0)=false by simp[e2]]
      conv=>whnf
      have hX:kG d v=iI ⟨d.k,v.n,v.t⟩:=by unfold kG; rw[if_neg (by simp[e2])]
      rw[hX]at hsnoc;refine .pure (mG (v:=⟨d.k,(v).n,(v).t⟩) hdk ⟨rfl,?_⟩)
      conv=>whnf
      refine⟨Nat.le_refl _,?_⟩
      conv=>whnf
      refine⟨rfl,?_⟩
      conv=>whnf
      refine⟨Nat.le_trans (Nat.mul_le_mul_right _ (by rw[aD,List.length_take,List.drop_zero,hlen]; exact Nat.add_le_add (Nat.le_refl i) (Nat.min_le_left _ _))) (show(i+1)*32<=70368744177664 by omega),?_⟩
      conv=>whnf
      refine .go [0,5] rfl (l.length-(i+1)) (by omega) ⟨i+1,?_,?_,by omega,rfl⟩
      . show [V.sl 3 (ah vs) f,V.ptr 0 0,V.ms 3 1 0 (ah (iQ l vs i) ++ [cP (iI ⟨d.k,(v).n,(v).t⟩)]).length false,V.int .i64 (IntKind.i64.wrap ((i:Int)+1))]=_
        rw[hsnoc,aQ (by omega)]; rfl
      . show [O.cells [.sl 3 (cols l) false,fI keys],O.buf (ah (iQ l vs i) ++ [cP (iI ⟨d.k,(v).n,(v).t⟩)])]=_
        rw[hsnoc]
 focus
  have c2' := aG c2;have hv:vs.getD i val0=val0:=by simp[List.getD,List.getElem?_eq_none (show vs.length<=i by omega)]
  rw[hv]at hsnoc;refine⟨_,⟨by omega,bj hget⟩,?_⟩
  conv=>whnf
  cases e1:d.o
  . conv=>whnf
    have hX:kG d val0=iI ⟨d.k,val0.n,val0.t⟩:=by unfold kG; rw[if_neg (by simp[e1])]
    rw[hX]at hsnoc;refine .pure (mG (v:=⟨d.k,(val0).n,(val0).t⟩) hdk ⟨rfl,?_⟩)
    conv=>whnf
    refine⟨Nat.le_refl _,?_⟩
    conv=>whnf
    refine⟨rfl,?_⟩
    conv=>whnf
    refine⟨Nat.le_trans (Nat.mul_le_mul_right _ (by rw[aD,List.length_take,List.drop_zero,hlen]; exact Nat.add_le_add (Nat.le_refl i) (Nat.min_le_left _ _))) (show(i+1)*32<=70368744177664 by omega),?_⟩
    conv=>whnf
    refine .go [0,5] rfl (l.length-(i+1)) (by omega) ⟨i+1,?_,?_,by omega,rfl⟩
    . show [V.sl 3 (ah vs) f,V.ptr 0 0,V.ms 3 1 0 (ah (iQ l vs i) ++ [cP (iI ⟨d.k,(val0).n,(val0).t⟩)]).length false,V.int .i64 (IntKind.i64.wrap ((i:Int)+1))]=_
      rw[hsnoc,aQ (by omega)]; rfl
    . show [O.cells [.sl 3 (cols l) false,fI keys],O.buf (ah (iQ l vs i) ++ [cP (iI ⟨d.k,(val0).n,(val0).t⟩)])]=_
      rw[hsnoc]
  . conv=>whnf
    refine⟨by decide,?_⟩
    conv=>whnf
    have hX:kG d val0=val0:=by unfold kG; rw[if_pos ⟨e1,rfl⟩]
    rw[hX]at hsnoc;refine⟨Nat.le_refl _,?_⟩
    conv=>whnf
    refine⟨rfl,?_⟩
    conv=>whnf
    refine⟨Nat.le_trans (Nat.mul_le_mul_right _ (by rw[aD,List.length_take,List.drop_zero,hlen]; exact Nat.add_le_add (Nat.le_refl i) (Nat.min_le_left _ _))) (show(i+1)*32<=70368744177664 by omega),?_⟩
    conv=>whnf
    refine .go [0,5] rfl (l.length-(i+1)) (by omega) ⟨i+1,?_,?_,by omega,rfl⟩
    . show [V.sl 3 (ah vs) f,V.ptr 0 0,V.ms 3 1 0 (ah (iQ l vs i) ++ [cP val0]).length false,V.int .i64 (IntKind.i64.wrap ((i:Int)+1))]=_
      rw[hsnoc,aQ (by omega)]; rfl
    . show [O.cells [.sl 3 (cols l) false,fI keys],O.buf (ah (iQ l vs i) ++ [cP val0])]=_
      rw[hsnoc]
structure RwB (r:List Val):Prop where
 few:r.length<=64
 n:∀v∈r,-9223372036854775808<=v.n/\v.n<=9223372036854775807
 t:∀v∈r,v.t.length<=4096
theorem rL {i j n:Nat} {k:Int} {f:Bool} {X:List UInt8} {H:List O} {K:V->List O->Prop} (hij:Nat.beq i j=false) (hX:ar H i = .buf (bs X)) (hn:n=X.length) (hs:X.length<=1000000000)
 (hK:aV (bX H i .dead ++ [.buf (bs (X ++ [b8 k]))]) fun H' => K (.ms 1 (bX H i .dead).length 0 (X ++ [b8 k]).length false) H') :
 0+1<=1/\dW 1 1 (.ms 1 i 0 n false) (.ms 1 j 0 1 f) [[.int .u8 (IntKind.u8.wrap k)]] H K:=by
 subst hn;refine⟨Nat.le_refl 1,?_⟩;unfold dW db;simp only[hij];unfold co;simp only[show Nat.beq 1 1=true from rfl,hX,List.drop_zero]
 refine⟨by rw[al]; rfl,?_⟩
 rw[show bs X ++ [[V.int .u8 (IntKind.u8.wrap k)]]=bs (X ++ [b8 k]) by rw[iA,bZ]; rfl]
 unfold bJ;rw[al];exact⟨by rw[aD,List.length_singleton]; omega,hK⟩
theorem K2 (n:Nat) (h:n<=1000):(IntKind.i64.wrap (IntKind.i64.wrap ((n:Int)+8)-1)).tdiv 8=(((n+7) / 8:Nat):Int):=by
 rw[bw (n:=(n:Int)+8) (by omega),bw (by omega),Int.tdiv_eq_ediv_of_nonneg (by omega)]
 omega
theorem HH:∀(m:Fin 8) (x:Fin 128),x.val<2 ^ m.val->IntKind.u8.wrap ↑(BitVec.ofInt IntKind.u8.bits ((UInt8.ofNat x.val).toNat:Int) ||| BitVec.ofInt IntKind.u8.bits (IntKind.u8.wrap (1*2 ^ min ((m.val:Nat):Int).toNat IntKind.u8.bits))).toNat=((UInt8.ofNat (x.val+2 ^ m.val)).toNat:Int):=by decide +kernel
theorem Fy {x m:Nat} (hm:m<8) (hx:x<2 ^ m):IntKind.u8.wrap ↑(BitVec.ofInt IntKind.u8.bits ((UInt8.ofNat x).toNat:Int) ||| BitVec.ofInt IntKind.u8.bits (IntKind.u8.wrap (1*2 ^ min (m:Int).toNat IntKind.u8.bits))).toNat=((UInt8.ofNat (x+2 ^ m)).toNat:Int):=by
 have h7:2 ^ m<=2 ^ 7:=Nat.pow_le_pow_right (by decide) (by omega)
 exact HH ⟨m,hm⟩ ⟨x,by omega⟩ hx
theorem Et (l:List UInt8) (q:Nat) (b:UInt8):(bs l).set q [.int .u8 (b.toNat:Int)]=bs (l.set q b):=by
 unfold bs; rw[List.map_set]
theorem Cs {l:List UInt8} {f:Bool} {r:List Val} (hl0:l ≠ []) (hr0:r ≠ []) (hr:RwB r) (hl:l.length<=1000000) (h:Q (.ms 1 0 0 (l++dM r).length false) [.buf (bs (l++dM r))]) :
 ACall Tryz.prog 120 0 [.sl 1 (bs l) f,.sl 3 (ah r) false] [] Q:=by
 refine ad Tryz.func120 0 rfl (aA rfl) ?_;have hlv:=aC r;have hfew:=hr.few;have hrp:0<r.length:=List.length_pos_iff.2 hr0
 conv=>whnf
 rw[hlv,K2 r.length (by omega)]
 refine⟨by decide,?_⟩
 rw[bw (n:=(((r.length+7) / 8:Nat):Int)) (by omega)]
 conv=>whnf
 refine⟨⟨(show(0:Int)<=(((r.length+7) / 8:Nat):Int) by omega),Int.le_refl _,(show((((r.length+7) / 8:Nat):Int)).toNat*1<=70368744177664 by omega)⟩,?_⟩
 conv=>whnf
 rw[hlv]
 refine⟨⟨[0,1,5,16,17,18],fun mm ws H=>∃(i:Nat) (bv:V),ws = [.sl 1 (bs l) f,.sl 3 (ah r) false,bv,.sl 3 (ah r) false,fI r.length,fI i] /\
  ((i<r.length/\bv = .ms 1 0 0 ((r.length+7) / 8) false/\H = [.buf (bs (jl r i))])\/(i=r.length/\bv = .sl 1 (bs (d6 r)) false/\H = []))/\mm=r.length-i,.at r.length ⟨0,_,?_,.inl ⟨hrp,rfl,?_⟩,rfl⟩,?_⟩⟩
 focus
  rw[<-hlv]; rfl
 focus
  rw[DF];show [O.buf (List.replicate ((r.length+7) / 8) [V.int .u8 0])]=_
  rw[show bs (List.replicate ((r.length+7) / 8) 0)=List.replicate ((r.length+7) / 8) [V.int .u8 0] by unfold bs; rw[List.map_replicate]; rfl]
 rintro mm ws H ⟨i,bv,rfl,hst,rfl⟩;rcases hst with⟨hi,rfl,rfl⟩ | ⟨rfl,rfl,rfl⟩
 focus
  have hg:r[i]? = some r[i]:=aS hi;generalize r[i]=v at *;have nx:∀bv:V,[V.sl 1 (bs l) f,.sl 3 (ah r) false,bv,.sl 3 (ah r) false,fI r.length,V.int .i64 (IntKind.i64.wrap ((i:Int)+1))] = [V.sl 1 (bs l) f,.sl 3 (ah r) false,bv,.sl 3 (ah r) false,fI r.length,fI ((i+1:Nat):Int)]:=fun bv=>by
   rw[bw (by omega)]; rfl
  conv=>whnf
  rw[show decide ((i:Int)<(r.length:Int))=true from decide_eq_true (by omega)]
  conv=>whnf
  refine⟨_,⟨by omega,bU hg⟩,?_⟩
  conv=>whnf
  refine ac (fun c1=>?_) (fun c1=>?_)<;>try rw[c1]<;>conv=>whnf
  focus
   have c1' := aB c1;obtain⟨n1,n2⟩:=Fk hg c1';obtain⟨q,hq⟩:∃q,q=i / 8:=⟨_,rfl⟩;obtain⟨m,hm⟩:∃m,m=i % 8:=⟨_,rfl⟩;rw[<-hq,<-hm]at n1 n2;have qE:IntKind.i64.wrap ((i:Int).tdiv 8)=(q:Int):=by rw[Int.tdiv_eq_ediv_of_nonneg (by omega),bw (by omega)]; omega
   have rE:(i:Int).tmod 8=(m:Int):=by rw[Int.tmod_eq_emod_of_nonneg (by omega)]; omega
   have bg:(bs (jl r i))[q]? = some [.int .u8 ((UInt8.ofNat (dp r q m)).toNat:Int)]:=by unfold bs; rw[List.getElem?_map,n2]; rfl
   refine⟨List.range 11,by kernel_rfl,by kernel_rfl,?_⟩
   conv=>whnf
   refine⟨by decide,?_⟩
   rw[qE]
   conv=>whnf
   refine⟨by omega,?_⟩
   conv=>whnf
   refine⟨_,bg,?_⟩
   conv=>whnf
   refine⟨by decide,?_⟩
   rw[rE]
   conv=>whnf
   refine⟨by omega,?_⟩
   repeat (conv=>whnf
           first | (refine⟨rfl,?_⟩) | (refine⟨by omega,?_⟩) | (refine⟨⟨_,bg,rfl⟩,?_⟩))
   conv=>whnf
   refine⟨_,bg,?_⟩
   conv=>whnf
   by_cases hlast:i+1<r.length
   . refine .go [0] rfl (r.length-(i+1)) (by omega) ⟨i+1,_,?_,.inl ⟨hlast,rfl,?_⟩,rfl⟩
     focus
      exact nx _
     focus
      show [O.buf ((bs (jl r i)).set q [.int .u8 (IntKind.u8.wrap ↑(BitVec.ofInt IntKind.u8.bits ((UInt8.ofNat (dp r q m)).toNat:Int) ||| BitVec.ofInt IntKind.u8.bits (IntKind.u8.wrap (1*2 ^ min (m:Int).toNat IntKind.u8.bits))).toNat)])]=_
      rw[Fy (by omega) (kz r q m),Et,<-n1]
   . have hl1:i+1=r.length:=by omega
     refine .frz 0 rfl (by repeat (first | exact trivial | refine And.intro (by rw[List.length_set,al,lz]; omega) ?_)) (.go [] rfl (r.length-(i+1)) (by omega) ⟨i+1,.sl 1 (bs (d6 r)) false,?_,.inr ⟨hl1,rfl,rfl⟩,rfl⟩)
     have hB:(bs (jl r i)).set q [.int .u8 (IntKind.u8.wrap ↑(BitVec.ofInt IntKind.u8.bits ((UInt8.ofNat (dp r q m)).toNat:Int) ||| BitVec.ofInt IntKind.u8.bits (IntKind.u8.wrap (1*2 ^ min (m:Int).toNat IntKind.u8.bits))).toNat)]=bs (d6 r):=by rw[Fy (by omega) (kz r q m),Et,<-n1,hl1,za]
     show [V.sl 1 (bs l) f,.sl 3 (ah r) false,.sl 1 (List.take ((r.length+7) / 8) (List.drop 0 ((bs (jl r i)).set q [.int .u8 (IntKind.u8.wrap ↑(BitVec.ofInt IntKind.u8.bits ((UInt8.ofNat (dp r q m)).toNat:Int) ||| BitVec.ofInt IntKind.u8.bits (IntKind.u8.wrap (1*2 ^ min (m:Int).toNat IntKind.u8.bits))).toNat)]))) false,.sl 3 (ah r) false,fI r.length,V.int .i64 (IntKind.i64.wrap ((i:Int)+1))]=_
     rw[hB,List.drop_zero,List.take_of_length_le (by rw[al,eP]; exact Nat.le_refl _)]
     exact nx _
  focus
   have c1' := aG c1;by_cases hlast:i+1<r.length
   . refine .go [0] rfl (r.length-(i+1)) (by omega) ⟨i+1,_,?_,.inl ⟨hlast,rfl,?_⟩,rfl⟩
     focus
      exact nx _
     focus
      rw[uZ hg c1']; rfl
   . have hl1:i+1=r.length:=by omega
     refine .frz 0 rfl (by repeat (first | exact trivial | refine And.intro (by rw[al,lz]; omega) ?_)) (.go [] rfl (r.length-(i+1)) (by omega) ⟨i+1,.sl 1 (bs (d6 r)) false,?_,.inr ⟨hl1,rfl,rfl⟩,rfl⟩)
     have hB:bs (jl r i)=bs (d6 r):=by rw[<-uZ hg c1', hl1,za]
     show [V.sl 1 (bs l) f,.sl 3 (ah r) false,.sl 1 (List.take ((r.length+7) / 8) (List.drop 0 (bs (jl r i)))) false,.sl 3 (ah r) false,fI r.length,V.int .i64 (IntKind.i64.wrap ((i:Int)+1))]=_
     rw[hB,List.drop_zero,List.take_of_length_le (by rw[al,eP]; exact Nat.le_refl _)]
     exact nx _
 conv=>whnf
 rw[show decide ((r.length:Int)<(r.length:Int))=false from decide_eq_false (by omega)]
 conv=>whnf
 have hwl:=eP r;refine .call [0] 1 ⟨rfl,rfl,rfl⟩ (ACall.eat rfl rfl (xr (a:=l) (c:=d6 r) (f:=f) hl0 (fun e=>by rw[e]at hwl; simp at hwl; omega) (by omega) (by omega) ?_))
 conv=>whnf
 rw[hlv];refine⟨⟨[0,41,42,43],fun mm ws H=>∃(i:Nat) (X:List UInt8),ws = [.ms 1 0 0 X.length false,.sl 3 (ah r) false,fI r.length,fI i]/\H = [.buf (bs X)]/\X=l++d6 r++(r.take i).flatMap eF/\i<=r.length/\mm=r.length-i,
  .frz (r.length+1) (.go [1] rfl r.length (by omega) ⟨0,l++d6 r,rfl,rfl,by simp,by omega,rfl⟩),?_⟩⟩
 rintro mm ws H ⟨i,X,rfl,rfl,hX,hi,rfl⟩
 conv=>whnf
 refine ac (fun c1=>?_) (fun c1=>?_)<;>try rw[c1]<;>conv=>whnf
 rotate_left
 focus
  have c1' := aG c1;have hie:i=r.length:=by omega
  subst hie;rw[List.take_length]at hX;have hXr:X=l++dM r:=by rw[hX]; unfold dM; rw[List.append_assoc]
  subst hXr;exact⟨[0],rfl,h⟩
 have c1' := aB c1;have hlt:i<r.length:=by omega
 have hg:r[i]? = some r[i]:=aS hlt;have hvm:=List.getElem_mem hlt;have hsn:=tE hg;have hvw:=BF (r:=r.take i) (fun v hv=>hr.t v (List.mem_of_mem_take hv))
 rw[List.length_take]at hvw;have hXl:X.length<=2000000:=by
  rw[hX,aD,aD];have:min i r.length<=64:=by omega
  omega
 have hn:=hr.n _ hvm;have htx:=hr.t _ hvm;generalize r[i]=v at *;have nx:∀Y:List UInt8,[V.ms 1 0 0 Y.length false,.sl 3 (ah r) false,fI r.length,V.int .i64 (IntKind.i64.wrap ((i:Int)+1))] = [V.ms 1 0 0 Y.length false,.sl 3 (ah r) false,fI r.length,fI ((i+1:Nat):Int)]:=fun Y=>by
  rw[bw (by omega)]; rfl
 have hXn:∀w,eF v=w->X++w=l++d6 r++(r.take (i+1)).flatMap eF:=fun w hw=>by rw[hsn,hX,hw,List.append_assoc]
 refine⟨_,⟨by omega,bU hg⟩,?_⟩
 conv=>whnf
 refine ac (fun k1=>?_) (fun k1=>?_)<;>try rw[k1]<;>conv=>whnf
 focus
  have k1' := aB k1;refine rL (X:=X) (k:=v.n) rfl rfl rfl (by omega) ?_
  conv=>whnf
  exact .go [3] rfl (r.length-(i+1)) (by omega) ⟨i+1,X ++ [b8 v.n],nx _,rfl,hXn _ (by unfold eF; rw[if_pos k1']),by omega,rfl⟩
 have k1' := aG k1;refine ac (fun k2=>?_) (fun k2=>?_)<;>try rw[k2]<;>conv=>whnf
 focus
  have k2' := aB k2;refine .call [0] 1 ⟨rfl,rfl,rfl⟩ (ACall.eat (al X).symm rfl (vH (l:=X) (f:=false) (n:=v.n) hn (by omega) ?_))
  conv=>whnf
  exact .go [2] rfl (r.length-(i+1)) (by omega) ⟨i+1,X++DS v.n,nx _,rfl,hXn _ (by unfold eF; rw[if_neg k1', if_pos k2']),by omega,rfl⟩
 have k2' := aG k2;have tail:v.k=3\/v.k=4->eF v=bm v.t:=fun hk=>by unfold eF; rw[if_neg k1', if_neg k2', if_pos hk]
 refine ac (fun k3=>?_) (fun k3=>?_)<;>try rw[k3]<;>conv=>whnf
 focus
  have k3' := aB k3;refine .call [0] 1 ⟨rfl,rfl,rfl⟩ (ACall.eat (al X).symm rfl (dV (l:=X) (f:=false) (s:=v.t) (by omega) (by omega) ?_))
  conv=>whnf
  exact .go [2] rfl (r.length-(i+1)) (by omega) ⟨i+1,X++bm v.t,nx _,rfl,hXn _ (tail (.inl k3')),by omega,rfl⟩
 refine ac (fun k4=>?_) (fun k4=>?_)<;>try rw[k4]<;>conv=>whnf
 focus
  have k4' := aB k4;refine .call [0] 1 ⟨rfl,rfl,rfl⟩ (ACall.eat (al X).symm rfl (dV (l:=X) (f:=false) (s:=v.t) (by omega) (by omega) ?_))
  conv=>whnf
  exact .go [2] rfl (r.length-(i+1)) (by omega) ⟨i+1,X++bm v.t,nx _,rfl,hXn _ (tail (.inr k4')),by omega,rfl⟩
 have k3' := aG k3;have k4' := aG k4;refine .go [0] rfl (r.length-(i+1)) (by omega) ⟨i+1,X,nx _,rfl,?_,by omega,rfl⟩
 have:=hXn [] (by unfold eF; rw[if_neg k1', if_neg k2', if_neg (by omega)])
 rw[List.append_nil]at this;exact this
theorem sI {a:List UInt8} (h:Q (.bool false) []):ACall Tryz.prog 155 0 [.str a] [] Q:=by
 refine ad Tryz.func155 0 rfl (aA rfl) ?_
 conv=>whnf
 refine⟨[],rfl,?_⟩;show Q (.bool (!decide (a=a))) []
 rw[decide_eq_true rfl]; exact h
def ye (a b:List UInt8):Int:=if Op.bytesLess a b then -1 else if Op.bytesLess b a then 1 else 0
theorem GU {a b:List UInt8}:decide (ye a b<0)=Op.bytesLess a b:=by
 unfold ye;cases h:Op.bytesLess a b
 . simp only[Bool.false_eq_true,if_false];split<;>decide
 . simp
theorem GT {a b:List UInt8}:decide (ye a b=0)=decide (a=b):=by
 unfold ye;cases h:Op.bytesLess a b
 . cases g:Op.bytesLess b a
   . simp[cz h g]
   . have:=gc g;have e:¬a=b:=fun e=>this e.symm
     simp[e]
 . have:=gc h;simp[this]
theorem tJ {a b:List UInt8} (h:Q (.int .i64 (ye a b)) []):ACall Tryz.prog 117 0 [.str a,.str b] [] Q:=by
 refine ad Tryz.func117 0 rfl (aA rfl) ?_
 conv=>whnf
 unfold ye at h;refine .pure (sI ⟨rfl,?_⟩)
 conv=>whnf
 refine .pure (sI ⟨rfl,?_⟩)
 conv=>whnf
 cases h1:Op.bytesLess a b<;>rw[h1]at h<;>conv=>whnf
 rotate_left
 focus exact⟨[],rfl,h⟩
 rw[IJ];cases h2:Op.bytesLess b a<;>rw[h2]at h<;>conv=>whnf
 . exact⟨[],rfl,h⟩
 . exact⟨[],rfl,h⟩
def ra (l:List Wk) (t:List UInt8) (i:Nat):Prop:=∀(j:Nat) (w:Wk),j<i->l[j]? = some w->Op.bytesLess w.t t=true
def D7 (l:List Wk) (t:List UInt8) (i:Nat):Prop:=∀(j:Nat) (w:Wk),i<=j->l[j]? = some w->Op.bytesLess w.t t=false
theorem vX {l:List Wk} {t:List UInt8} {i:Nat} {x:Wk} (hs:fq l) (hg:l[i]? = some x) (h:Op.bytesLess x.t t=true):ra l t (i+1):=fun j w hj hw=>by
 rcases Nat.lt_or_ge j i with h1 | h1
 . exact bW (d8 hs h1 hw hg) h
 . have:j=i:=by omega
   subst this;rw[hg]at hw; cases hw; exact h
theorem vN {l:List Wk} {t:List UInt8} {i:Nat} {x:Wk} (hs:fq l) (hg:l[i]? = some x) (h:Op.bytesLess x.t t=false):D7 l t i:=fun j w hj hw=>by
 rcases Nat.lt_or_ge i j with h1 | h1
 . cases hb:Op.bytesLess w.t t with
   | false=>rfl
   | true =>
    have:=bW (d8 hs h1 hg hw) hb;rw[h]at this; cases this
 . have:j=i:=by omega
   subst this;rw[hg]at hw; cases hw; exact h
theorem vO {l:List Wk} {t:List UInt8} {k:Nat} {w:Wk} (hb:ra l t k) (hg:l[k]? = some w) (h:Op.bytesLess w.t t=true):ra l t (k+1):=fun j x hj hx=>by
 rcases Nat.lt_or_ge j k with h1 | h1
 . exact hb j x h1 hx
 . have:j=k:=by omega
   subst this;rw[hg]at hx; cases hx; exact h
end
end Go.Proofs.YteiagdlfccbpcaaGreatDoorPg

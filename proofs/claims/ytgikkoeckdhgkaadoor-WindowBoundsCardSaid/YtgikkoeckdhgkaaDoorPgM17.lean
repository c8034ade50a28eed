/- Own texts, laid together: Pg13DT, Pg13DBy, Pg13DTreeR, Pg13DVal, Pg13DValB. -/
import Derived.Test.YtgikkoeckdhgkaaDoorProg
import Derived.Test.YtgikkoeckdhgkaaDoorPgM12
import Derived.KernelRfl
import Derived.Test.YtgikkoeckdhgkaaDoorPgM16
import Derived.Test.YtgikkoeckdhgkaaDoorPgM13
/- The base of a seat: its types, as a table that computes, and its functions. -/
namespace Go.Proofs.YtgikkoeckdhgkaaDoorPg
open Go Go.RowKit

def tbl : List TI := [
  TI.bad,
  { kind := .fn, size := 1, bytes := 8, zero := [.nilf], good := true },
  { kind := .int .i64, size := 1, bytes := 8, zero := [.int .i64 0], good := true },
  { kind := .int .i64, size := 1, bytes := 8, zero := [.int .i64 0], good := true },
  { kind := .bool, size := 1, bytes := 1, zero := [.bool false], good := true },
  { kind := .int .u8, size := 1, bytes := 1, zero := [.int .u8 0], good := true },
  { kind := .int .u8, size := 1, bytes := 1, zero := [.int .u8 0], good := true },
  { kind := .struct [(0, 2), (1, 3), (2, 4), (3, 6)], size := 4, bytes := 24, zero := [.int .i64 0, .int .i64 0, .bool false, .int .u8 0], good := true, eqok := true },
  { kind := .struct [(0, 2), (1, 3), (2, 4), (3, 6)], size := 4, bytes := 24, zero := [.int .i64 0, .int .i64 0, .bool false, .int .u8 0], good := true, eqok := true },
  { kind := .str, size := 1, bytes := 16, zero := [.str []], good := true },
  { kind := .str, size := 1, bytes := 16, zero := [.str []], good := true },
  { kind := .str, size := 1, bytes := 16, zero := [.str []], good := true },
  { kind := .int .u64, size := 1, bytes := 8, zero := [.int .u64 0], good := true },
  { kind := .struct [(0, 9), (1, 12)], size := 2, bytes := 24, zero := [.str [], .int .u64 0], good := true },
  { kind := .struct [(0, 9), (1, 12)], size := 2, bytes := 24, zero := [.str [], .int .u64 0], good := true },
  { kind := .ptr 151, size := 1, bytes := 8, zero := [.nilp], good := true },
  { kind := .ptr 154, size := 1, bytes := 8, zero := [.nilp], good := true },
  { kind := .ptr 162, size := 1, bytes := 8, zero := [.nilp], good := true },
  { kind := .struct [(0, 17)], size := 1, bytes := 8, zero := [.nilp], good := true },
  { kind := .struct [(0, 17)], size := 1, bytes := 8, zero := [.nilp], good := true },
  { kind := .iface, size := 1, bytes := 16, zero := [.nili], good := true },
  { kind := .int .i32, size := 1, bytes := 4, zero := [.int .i32 0], good := true },
  { kind := .sl 3, size := 1, bytes := 24, zero := [.nils], good := true },
  { kind := .ptr 80, size := 1, bytes := 8, zero := [.nilp], good := true },
  { kind := .fn, size := 1, bytes := 8, zero := [.nilf], good := true },
  { kind := .sl 42, size := 1, bytes := 24, zero := [.nils], good := true },
  { kind := .struct [(0, 25), (1, 3)], size := 2, bytes := 32, zero := [.nils, .int .i64 0], good := true },
  { kind := .struct [(0, 25), (1, 3)], size := 2, bytes := 32, zero := [.nils, .int .i64 0], good := true },
  { kind := .struct [(0, 9), (1, 27)], size := 3, bytes := 48, zero := [.str [], .nils, .int .i64 0], good := true },
  { kind := .struct [(0, 9), (1, 27)], size := 3, bytes := 48, zero := [.str [], .nils, .int .i64 0], good := true },
  { kind := .fn, size := 1, bytes := 8, zero := [.nilf], good := true },
  { kind := .sl 32, size := 1, bytes := 24, zero := [.nils], good := true },
  { kind := .sl 40, size := 1, bytes := 24, zero := [.nils], good := true },
  { kind := .sl 40, size := 1, bytes := 24, zero := [.nils], good := true },
  { kind := .fn, size := 1, bytes := 8, zero := [.nilf], good := true },
  { kind := .sl 33, size := 1, bytes := 24, zero := [.nils], good := true },
  { kind := .fn, size := 1, bytes := 8, zero := [.nilf], good := true },
  { kind := .int .i64, size := 1, bytes := 8, zero := [.int .i64 0], good := true },
  { kind := .fn, size := 1, bytes := 8, zero := [.nilf], good := true },
  { kind := .struct [(0, 3), (1, 3), (2, 9)], size := 3, bytes := 32, zero := [.int .i64 0, .int .i64 0, .str []], good := true, eqok := true },
  { kind := .struct [(0, 3), (1, 3), (2, 9)], size := 3, bytes := 32, zero := [.int .i64 0, .int .i64 0, .str []], good := true, eqok := true },
  { kind := .struct [(0, 9), (1, 3), (2, 4)], size := 3, bytes := 32, zero := [.str [], .int .i64 0, .bool false], good := true, eqok := true },
  { kind := .struct [(0, 9), (1, 3), (2, 4)], size := 3, bytes := 32, zero := [.str [], .int .i64 0, .bool false], good := true, eqok := true },
  { kind := .fn, size := 1, bytes := 8, zero := [.nilf], good := true },
  { kind := .fn, size := 1, bytes := 8, zero := [.nilf], good := true },
  { kind := .fn, size := 1, bytes := 8, zero := [.nilf], good := true },
  { kind := .fn, size := 1, bytes := 8, zero := [.nilf], good := true },
  { kind := .fn, size := 1, bytes := 8, zero := [.nilf], good := true },
  { kind := .struct [(0, 3), (1, 4), (2, 3), (3, 29), (6, 9), (7, 9), (8, 4), (9, 4), (10, 35)], size := 11, bytes := 136, zero := [.int .i64 0, .bool false, .int .i64 0, .str [], .nils, .int .i64 0, .str [], .str [], .bool false, .bool false, .nils], good := true },
  { kind := .struct [(0, 3), (1, 4), (2, 3), (3, 29), (6, 9), (7, 9), (8, 4), (9, 4), (10, 35)], size := 11, bytes := 136, zero := [.int .i64 0, .bool false, .int .i64 0, .str [], .nils, .int .i64 0, .str [], .str [], .bool false, .bool false, .nils], good := true },
  { kind := .fn, size := 1, bytes := 8, zero := [.nilf], good := true },
  TI.bad,
  { kind := .fn, size := 1, bytes := 8, zero := [.nilf], good := true },
  { kind := .fn, size := 1, bytes := 8, zero := [.nilf], good := true },
  { kind := .fn, size := 1, bytes := 8, zero := [.nilf], good := true },
  { kind := .sl 60, size := 1, bytes := 24, zero := [.nils], good := true },
  { kind := .fn, size := 1, bytes := 8, zero := [.nilf], good := true },
  { kind := .struct [(0, 3), (1, 9), (2, 27), (4, 42)], size := 7, bytes := 88, zero := [.int .i64 0, .str [], .nils, .int .i64 0, .str [], .int .i64 0, .bool false], good := true },
  { kind := .struct [(0, 3), (1, 9), (2, 27), (4, 42)], size := 7, bytes := 88, zero := [.int .i64 0, .str [], .nils, .int .i64 0, .str [], .int .i64 0, .bool false], good := true },
  { kind := .struct [(0, 3), (1, 3), (2, 9), (3, 33), (4, 33), (5, 58)], size := 12, bytes := 168, zero := [.int .i64 0, .int .i64 0, .str [], .nils, .nils, .int .i64 0, .str [], .nils, .int .i64 0, .str [], .int .i64 0, .bool false], good := true },
  { kind := .struct [(0, 3), (1, 3), (2, 9), (3, 33), (4, 33), (5, 58)], size := 12, bytes := 168, zero := [.int .i64 0, .int .i64 0, .str [], .nils, .nils, .int .i64 0, .str [], .nils, .int .i64 0, .str [], .int .i64 0, .bool false], good := true },
  { kind := .fn, size := 1, bytes := 8, zero := [.nilf], good := true },
  { kind := .sl 29, size := 1, bytes := 24, zero := [.nils], good := true },
  { kind := .fn, size := 1, bytes := 8, zero := [.nilf], good := true },
  { kind := .fn, size := 1, bytes := 8, zero := [.nilf], good := true },
  { kind := .fn, size := 1, bytes := 8, zero := [.nilf], good := true },
  { kind := .struct [(0, 9), (1, 4), (2, 9)], size := 3, bytes := 40, zero := [.str [], .bool false, .str []], good := true, eqok := true },
  { kind := .struct [(0, 9), (1, 4), (2, 9)], size := 3, bytes := 40, zero := [.str [], .bool false, .str []], good := true, eqok := true },
  TI.bad,
  { kind := .fn, size := 1, bytes := 8, zero := [.nilf], good := true },
  { kind := .fn, size := 1, bytes := 8, zero := [.nilf], good := true },
  { kind := .sl 75, size := 1, bytes := 24, zero := [.nils], good := true },
  TI.bad,
  { kind := .fn, size := 1, bytes := 8, zero := [.nilf], good := true },
  { kind := .struct [(0, 3), (1, 3), (2, 32), (3, 31), (4, 60), (16, 4)], size := 17, bytes := 240, zero := [.int .i64 0, .int .i64 0, .nils, .nils, .int .i64 0, .int .i64 0, .str [], .nils, .nils, .int .i64 0, .str [], .nils, .int .i64 0, .str [], .int .i64 0, .bool false, .bool false], good := true },
  { kind := .struct [(0, 3), (1, 3), (2, 32), (3, 31), (4, 60), (16, 4)], size := 17, bytes := 240, zero := [.int .i64 0, .int .i64 0, .nils, .nils, .int .i64 0, .int .i64 0, .str [], .nils, .nils, .int .i64 0, .str [], .nils, .int .i64 0, .str [], .int .i64 0, .bool false, .bool false], good := true },
  { kind := .fn, size := 1, bytes := 8, zero := [.nilf], good := true },
  { kind := .fn, size := 1, bytes := 8, zero := [.nilf], good := true },
  { kind := .ptr 88, size := 1, bytes := 8, zero := [.nilp], good := true },
  { kind := .struct [(0, 3), (1, 78)], size := 2, bytes := 16, zero := [.int .i64 0, .nilp], good := true },
  { kind := .struct [(0, 3), (1, 78)], size := 2, bytes := 16, zero := [.int .i64 0, .nilp], good := true },
  { kind := .fn, size := 1, bytes := 8, zero := [.nilf], good := true },
  { kind := .fn, size := 1, bytes := 8, zero := [.nilf], good := true },
  { kind := .fn, size := 1, bytes := 8, zero := [.nilf], good := true },
  { kind := .fn, size := 1, bytes := 8, zero := [.nilf], good := true },
  { kind := .ptr 115, size := 1, bytes := 8, zero := [.nilp], good := true },
  { kind := .fn, size := 1, bytes := 8, zero := [.nilf], good := true },
  { kind := .struct [(0, 3), (1, 29), (4, 9), (5, 9), (6, 4), (7, 4), (8, 85)], size := 9, bytes := 104, zero := [.int .i64 0, .str [], .nils, .int .i64 0, .str [], .str [], .bool false, .bool false, .nilp], good := true },
  { kind := .struct [(0, 3), (1, 29), (4, 9), (5, 9), (6, 4), (7, 4), (8, 85)], size := 9, bytes := 104, zero := [.int .i64 0, .str [], .nils, .int .i64 0, .str [], .str [], .bool false, .bool false, .nilp], good := true },
  TI.bad,
  { kind := .fn, size := 1, bytes := 8, zero := [.nilf], good := true },
  { kind := .fn, size := 1, bytes := 8, zero := [.nilf], good := true },
  { kind := .fn, size := 1, bytes := 8, zero := [.nilf], good := true },
  { kind := .fn, size := 1, bytes := 8, zero := [.nilf], good := true },
  { kind := .fn, size := 1, bytes := 8, zero := [.nilf], good := true },
  { kind := .fn, size := 1, bytes := 8, zero := [.nilf], good := true },
  { kind := .fn, size := 1, bytes := 8, zero := [.nilf], good := true },
  { kind := .fn, size := 1, bytes := 8, zero := [.nilf], good := true },
  { kind := .sl 9, size := 1, bytes := 24, zero := [.nils], good := true },
  { kind := .fn, size := 1, bytes := 8, zero := [.nilf], good := true },
  TI.bad,
  { kind := .fn, size := 1, bytes := 8, zero := [.nilf], good := true },
  { kind := .fn, size := 1, bytes := 8, zero := [.nilf], good := true },
  { kind := .fn, size := 1, bytes := 8, zero := [.nilf], good := true },
  TI.bad,
  { kind := .fn, size := 1, bytes := 8, zero := [.nilf], good := true },
  TI.bad,
  { kind := .fn, size := 1, bytes := 8, zero := [.nilf], good := true },
  { kind := .fn, size := 1, bytes := 8, zero := [.nilf], good := true },
  { kind := .fn, size := 1, bytes := 8, zero := [.nilf], good := true },
  { kind := .fn, size := 1, bytes := 8, zero := [.nilf], good := true },
  { kind := .fn, size := 1, bytes := 8, zero := [.nilf], good := true },
  { kind := .fn, size := 1, bytes := 8, zero := [.nilf], good := true },
  { kind := .ptr 132, size := 1, bytes := 8, zero := [.nilp], good := true },
  { kind := .struct [(0, 113), (1, 3)], size := 2, bytes := 16, zero := [.nilp, .int .i64 0], good := true },
  { kind := .struct [(0, 113), (1, 3)], size := 2, bytes := 16, zero := [.nilp, .int .i64 0], good := true },
  { kind := .fn, size := 1, bytes := 8, zero := [.nilf], good := true },
  { kind := .fn, size := 1, bytes := 8, zero := [.nilf], good := true },
  { kind := .fn, size := 1, bytes := 8, zero := [.nilf], good := true },
  { kind := .fn, size := 1, bytes := 8, zero := [.nilf], good := true },
  { kind := .fn, size := 1, bytes := 8, zero := [.nilf], good := true },
  { kind := .fn, size := 1, bytes := 8, zero := [.nilf], good := true },
  { kind := .fn, size := 1, bytes := 8, zero := [.nilf], good := true },
  { kind := .fn, size := 1, bytes := 8, zero := [.nilf], good := true },
  { kind := .fn, size := 1, bytes := 8, zero := [.nilf], good := true },
  { kind := .fn, size := 1, bytes := 8, zero := [.nilf], good := true },
  { kind := .fn, size := 1, bytes := 8, zero := [.nilf], good := true },
  { kind := .fn, size := 1, bytes := 8, zero := [.nilf], good := true },
  { kind := .sl 5, size := 1, bytes := 24, zero := [.nils], good := true },
  { kind := .fn, size := 1, bytes := 8, zero := [.nilf], good := true },
  { kind := .fn, size := 1, bytes := 8, zero := [.nilf], good := true },
  { kind := .struct [(0, 9), (1, 33), (2, 3), (3, 113), (4, 113)], size := 5, bytes := 64, zero := [.str [], .nils, .int .i64 0, .nilp, .nilp], good := true },
  { kind := .struct [(0, 9), (1, 33), (2, 3), (3, 113), (4, 113)], size := 5, bytes := 64, zero := [.str [], .nils, .int .i64 0, .nilp, .nilp], good := true },
  { kind := .fn, size := 1, bytes := 8, zero := [.nilf], good := true },
  { kind := .int .u64, size := 1, bytes := 8, zero := [.int .u64 0], good := true },
  { kind := .fn, size := 1, bytes := 8, zero := [.nilf], good := true },
  { kind := .fn, size := 1, bytes := 8, zero := [.nilf], good := true },
  { kind := .fn, size := 1, bytes := 8, zero := [.nilf], good := true },
  { kind := .fn, size := 1, bytes := 8, zero := [.nilf], good := true },
  { kind := .int .u64, size := 1, bytes := 8, zero := [.int .u64 0], good := true },
  { kind := .fn, size := 1, bytes := 8, zero := [.nilf], good := true },
  { kind := .fn, size := 1, bytes := 8, zero := [.nilf], good := true },
  { kind := .fn, size := 1, bytes := 8, zero := [.nilf], good := true },
  TI.bad,
  { kind := .struct [(0, 5), (1, 5)], size := 2, bytes := 2, zero := [.int .u8 0, .int .u8 0], good := true, eqok := true },
  { kind := .struct [(0, 5), (1, 5)], size := 2, bytes := 2, zero := [.int .u8 0, .int .u8 0], good := true, eqok := true },
  TI.bad,
  { kind := .int .u32, size := 1, bytes := 4, zero := [.int .u32 0], good := true },
  TI.bad,
  { kind := .fn, size := 1, bytes := 8, zero := [.nilf], good := true },
  { kind := .struct [(0, 17), (1, 17), (2, 17), (3, 9)], size := 4, bytes := 40, zero := [.nilp, .nilp, .nilp, .str []], good := true },
  { kind := .struct [(0, 17), (1, 17), (2, 17), (3, 9)], size := 4, bytes := 40, zero := [.nilp, .nilp, .nilp, .str []], good := true },
  { kind := .arr 0 16, size := 0, bytes := 0, zero := [], good := true },
  { kind := .struct [(0, 152)], size := 0, bytes := 0, zero := [], good := true },
  { kind := .struct [(0, 152)], size := 0, bytes := 0, zero := [], good := true },
  { kind := .int .u8, size := 1, bytes := 1, zero := [.int .u8 0], good := true },
  { kind := .int .u8, size := 1, bytes := 1, zero := [.int .u8 0], good := true },
  { kind := .fn, size := 1, bytes := 8, zero := [.nilf], good := true },
  { kind := .ptr 5, size := 1, bytes := 8, zero := [.nilp], good := true },
  { kind := .int .i32, size := 1, bytes := 4, zero := [.int .i32 0], good := true },
  { kind := .int .i32, size := 1, bytes := 4, zero := [.int .i32 0], good := true },
  { kind := .struct [(0, 12), (1, 12), (2, 147), (3, 155), (4, 5), (5, 5), (6, 156), (7, 157), (8, 158), (9, 159), (10, 160)], size := 11, bytes := 48, zero := [.int .u64 0, .int .u64 0, .int .u32 0, .int .u8 0, .int .u8 0, .int .u8 0, .int .u8 0, .nilf, .nilp, .int .i32 0, .int .i32 0], good := true },
  { kind := .struct [(0, 12), (1, 12), (2, 147), (3, 155), (4, 5), (5, 5), (6, 156), (7, 157), (8, 158), (9, 159), (10, 160)], size := 11, bytes := 48, zero := [.int .u64 0, .int .u64 0, .int .u32 0, .int .u8 0, .int .u8 0, .int .u8 0, .int .u8 0, .nilf, .nilp, .int .i32 0, .int .i32 0], good := true },
  { kind := .other, size := 1, bytes := 8, zero := [.nilp], good := true }]
def tt (t : Nat) : TI := tbl.getD t TI.bad

set_option maxRecDepth 100000 in
theorem tt_ok : TIok Tryd.prog tt := tiok_of (l := tbl) ⟨
  .inr rfl,
  .inl (by kernel_rfl),
  .inl (by kernel_rfl),
  .inl (by kernel_rfl),
  .inl (by kernel_rfl),
  .inl (by kernel_rfl),
  .inl (by kernel_rfl),
  .inl (by kernel_rfl),
  .inl (by kernel_rfl),
  .inl (by kernel_rfl),
  .inl (by kernel_rfl),
  .inl (by kernel_rfl),
  .inl (by kernel_rfl),
  .inl (by kernel_rfl),
  .inl (by kernel_rfl),
  .inl (by kernel_rfl),
  .inl (by kernel_rfl),
  .inl (by kernel_rfl),
  .inl (by kernel_rfl),
  .inl (by kernel_rfl),
  .inl (by kernel_rfl),
  .inl (by kernel_rfl),
  .inl (by kernel_rfl),
  .inl (by kernel_rfl),
  .inl (by kernel_rfl),
  .inl (by kernel_rfl),
  .inl (by kernel_rfl),
  .inl (by kernel_rfl),
  .inl (by kernel_rfl),
  .inl (by kernel_rfl),
  .inl (by kernel_rfl),
  .inl (by kernel_rfl),
  .inl (by kernel_rfl),
  .inl (by kernel_rfl),
  .inl (by kernel_rfl),
  .inl (by kernel_rfl),
  .inl (by kernel_rfl),
  .inl (by kernel_rfl),
  .inl (by kernel_rfl),
  .inl (by kernel_rfl),
  .inl (by kernel_rfl),
  .inl (by kernel_rfl),
  .inl (by kernel_rfl),
  .inl (by kernel_rfl),
  .inl (by kernel_rfl),
  .inl (by kernel_rfl),
  .inl (by kernel_rfl),
  .inl (by kernel_rfl),
  .inl (by kernel_rfl),
  .inl (by kernel_rfl),
  .inl (by kernel_rfl),
  .inr rfl,
  .inl (by kernel_rfl),
  .inl (by kernel_rfl),
  .inl (by kernel_rfl),
  .inl (by kernel_rfl),
  .inl (by kernel_rfl),
  .inl (by kernel_rfl),
  .inl (by kernel_rfl),
  .inl (by kernel_rfl),
  .inl (by kernel_rfl),
  .inl (by kernel_rfl),
  .inl (by kernel_rfl),
  .inl (by kernel_rfl),
  .inl (by kernel_rfl),
  .inl (by kernel_rfl),
  .inl (by kernel_rfl),
  .inl (by kernel_rfl),
  .inr rfl,
  .inl (by kernel_rfl),
  .inl (by kernel_rfl),
  .inl (by kernel_rfl),
  .inr rfl,
  .inl (by kernel_rfl),
  .inl (by kernel_rfl),
  .inl (by kernel_rfl),
  .inl (by kernel_rfl),
  .inl (by kernel_rfl),
  .inl (by kernel_rfl),
  .inl (by kernel_rfl),
  .inl (by kernel_rfl),
  .inl (by kernel_rfl),
  .inl (by kernel_rfl),
  .inl (by kernel_rfl),
  .inl (by kernel_rfl),
  .inl (by kernel_rfl),
  .inl (by kernel_rfl),
  .inl (by kernel_rfl),
  .inl (by kernel_rfl),
  .inr rfl,
  .inl (by kernel_rfl),
  .inl (by kernel_rfl),
  .inl (by kernel_rfl),
  .inl (by kernel_rfl),
  .inl (by kernel_rfl),
  .inl (by kernel_rfl),
  .inl (by kernel_rfl),
  .inl (by kernel_rfl),
  .inl (by kernel_rfl),
  .inl (by kernel_rfl),
  .inr rfl,
  .inl (by kernel_rfl),
  .inl (by kernel_rfl),
  .inl (by kernel_rfl),
  .inr rfl,
  .inl (by kernel_rfl),
  .inr rfl,
  .inl (by kernel_rfl),
  .inl (by kernel_rfl),
  .inl (by kernel_rfl),
  .inl (by kernel_rfl),
  .inl (by kernel_rfl),
  .inl (by kernel_rfl),
  .inl (by kernel_rfl),
  .inl (by kernel_rfl),
  .inl (by kernel_rfl),
  .inl (by kernel_rfl),
  .inl (by kernel_rfl),
  .inl (by kernel_rfl),
  .inl (by kernel_rfl),
  .inl (by kernel_rfl),
  .inl (by kernel_rfl),
  .inl (by kernel_rfl),
  .inl (by kernel_rfl),
  .inl (by kernel_rfl),
  .inl (by kernel_rfl),
  .inl (by kernel_rfl),
  .inl (by kernel_rfl),
  .inl (by kernel_rfl),
  .inl (by kernel_rfl),
  .inl (by kernel_rfl),
  .inl (by kernel_rfl),
  .inl (by kernel_rfl),
  .inl (by kernel_rfl),
  .inl (by kernel_rfl),
  .inl (by kernel_rfl),
  .inl (by kernel_rfl),
  .inl (by kernel_rfl),
  .inl (by kernel_rfl),
  .inl (by kernel_rfl),
  .inl (by kernel_rfl),
  .inl (by kernel_rfl),
  .inl (by kernel_rfl),
  .inr rfl,
  .inl (by kernel_rfl),
  .inl (by kernel_rfl),
  .inr rfl,
  .inl (by kernel_rfl),
  .inr rfl,
  .inl (by kernel_rfl),
  .inl (by kernel_rfl),
  .inl (by kernel_rfl),
  .inl (by kernel_rfl),
  .inl (by kernel_rfl),
  .inl (by kernel_rfl),
  .inl (by kernel_rfl),
  .inl (by kernel_rfl),
  .inl (by kernel_rfl),
  .inl (by kernel_rfl),
  .inl (by kernel_rfl),
  .inl (by kernel_rfl),
  .inl (by kernel_rfl),
  .inl (by kernel_rfl),
  .inl (by kernel_rfl),
  trivial⟩

def fns : List Nat := [2, 3, 4, 5, 6, 7, 8, 9, 10, 11, 12, 13, 14, 15, 16, 17, 18, 19, 20, 21, 22, 23, 24, 25, 26, 27, 28, 29, 30, 31, 32, 33, 34, 35, 36, 37, 38, 39, 40, 41, 42, 43, 44, 45, 46, 47, 48, 49, 50, 51, 52, 53, 54, 55, 56, 57, 58, 59, 60, 61, 62, 63, 64, 65, 66, 67, 68, 69, 70, 71, 72, 73, 74, 75, 76, 77, 78, 79, 80, 81, 82, 83, 84, 85, 87, 88, 89, 90, 91, 92, 93, 94, 96, 119]
theorem fns_ok : Entered Tryd.prog fns := ⟨Tryd.call2, Tryd.call3, Tryd.call4, Tryd.call5, Tryd.call6, Tryd.call7, Tryd.call8, Tryd.call9, Tryd.call10, Tryd.call11, Tryd.call12, Tryd.call13, Tryd.call14, Tryd.call15, Tryd.call16, Tryd.call17, Tryd.call18, Tryd.call19, Tryd.call20, Tryd.call21, Tryd.call22, Tryd.call23, Tryd.call24, Tryd.call25, Tryd.call26, Tryd.call27, Tryd.call28, Tryd.call29, Tryd.call30, Tryd.call31, Tryd.call32, Tryd.call33, Tryd.call34, Tryd.call35, Tryd.call36, Tryd.call37, Tryd.call38, Tryd.call39, Tryd.call40, Tryd.call41, Tryd.call42, Tryd.call43, Tryd.call44, Tryd.call45, Tryd.call46, Tryd.call47, Tryd.call48, Tryd.call49, Tryd.call50, Tryd.call51, Tryd.call52, Tryd.call53, Tryd.call54, Tryd.call55, Tryd.call56, Tryd.call57, Tryd.call58, Tryd.call59, Tryd.call60, Tryd.call61, Tryd.call62, Tryd.call63, Tryd.call64, Tryd.call65, Tryd.call66, Tryd.call67, Tryd.call68, Tryd.call69, Tryd.call70, Tryd.call71, Tryd.call72, Tryd.call73, Tryd.call74, Tryd.call75, Tryd.call76, Tryd.call77, Tryd.call78, Tryd.call79, Tryd.call80, Tryd.call81, Tryd.call82, Tryd.call83, Tryd.call84, Tryd.call85, Tryd.call87, Tryd.call88, Tryd.call89, Tryd.call90, Tryd.call91, Tryd.call92, Tryd.call93, Tryd.call94, Tryd.call96, Tryd.call119, trivial⟩
theorem mixed_ok : Tryd.prog.follows .mixedOrders = true := by kernel_rfl
noncomputable abbrev cx (n k : Nat) : Ctx := ⟨Tryd.prog, tt, fns, n, k, false, none⟩
theorem cx_ok (n k : Nat) : CtxOk (cx n k) := ⟨tt_ok, entered_get fns fns_ok, mixed_ok⟩

end Go.Proofs.YtgikkoeckdhgkaaDoorPg

/- A function's body, walked. -/
namespace Go.Proofs.YtgikkoeckdhgkaaDoorPg
open Go Go.RowKit
set_option linter.unusedSimpArgs false

theorem by_body {f : FuncId} {fn : Func} (hf : Tryd.prog.funcs[f]? = some fn) (k : Nat) {args : List V} {H : List O} {Q : V → List O → Prop} (hb : fn.body = some (fn.body.getD .skip)) (hl : args.length ≤ fn.ntmps)
    (h : abody (cx fn.ntmps k) fn (fn.body.getD .skip) args H Q) : ACall Tryd.prog f k args H Q :=
  acall_intro (cx_ok fn.ntmps k) hf hb rfl rfl hl h

abbrev fI (n : Int) : V := .int .i64 n

end Go.Proofs.YtgikkoeckdhgkaaDoorPg

/- The tree's functions, over rows. -/
namespace Go.Proofs.YtgikkoeckdhgkaaDoorPg
open Go Go.RowKit
set_option linter.unusedSimpArgs false
set_option linter.unusedVariables false

variable {Q : V → List O → Prop}

theorem high_spec {x : Tr Rw} (h : Q (.int .i64 ((x.ht : Nat) : Int)) []) : ACall Tryd.prog 89 0 [.im (encT fR x)] [] Q := by
  refine by_body Tryd.func89 0 rfl (Nat.le_of_ble_eq_true rfl) ?_
  cases x with
  | nil =>
    conv => whnf
    exact ⟨[], rfl, h⟩
  | node k v a b =>
    conv => whnf
    exact ⟨[], rfl, h⟩

theorem made_spec {k : List UInt8} {v : Rw} {xa xb a b : Tr Rw} (ha : a.ht < 4611686018427387904) (hb : b.ht < 4611686018427387904) (h : Q (.im (encT fR (.node k v a b))) []) :
    ACall Tryd.prog 90 0 [.im (encT fR (.node k v xa xb)), .im (encT fR a), .im (encT fR b)] [] Q := by
  refine ACall.sel (ACall.im (ACall.frz 0 (by_body Tryd.func90 0 rfl (Nat.le_of_ble_eq_true rfl) ?_)))
  conv => whnf
  refine ⟨[0, 1, 2, 3, 4, 5, 6, 7, 8, 10, 14, 15, 9, 11, 12, 13, 16, 17, 18], by kernel_rfl, by kernel_rfl, ?_⟩
  conv => whnf
  refine .call [] 0 ⟨rfl, rfl, rfl⟩ (high_spec ?_)
  repeat (refine ⟨rfl, ?_⟩)
  conv => whnf
  refine .call [] 0 ⟨rfl, rfl, rfl⟩ (high_spec ?_)
  repeat (refine ⟨rfl, ?_⟩)
  conv => whnf
  refine ⟨[0], rfl, rfl, rfl, [], rfl, ?_⟩
  have hw : IntKind.i64.wrap (1 + (if ((b.ht : Nat) : Int) > ((a.ht : Nat) : Int) then ((b.ht : Nat) : Int) else ((a.ht : Nat) : Int))) = ((Tr.ht (.node k v a b) : Nat) : Int) := by
    rw [IntKind.wrap_i64]
    simp only [Tr.ht]
    split <;> omega
  show Q (.im (.ip [.str k, fR v, .int .i64 (IntKind.i64.wrap (1 + (if ((b.ht : Nat) : Int) > ((a.ht : Nat) : Int) then ((b.ht : Nat) : Int) else ((a.ht : Nat) : Int)))), .im (encT fR a), .im (encT fR b)] 0)) []
  rw [hw]
  exact h

theorem even_spec {k : List UInt8} {v : Rw} {xa xb a b : Tr Rw} (ha : a.ht < 2305843009213693952) (hb : b.ht < 2305843009213693952) (h : Q (.im (encT fR (evenT k v a b))) []) :
    ACall Tryd.prog 80 0 [.im (encT fR (.node k v xa xb)), .im (encT fR a), .im (encT fR b)] [] Q := by
  refine by_body Tryd.func80 0 rfl (Nat.le_of_ble_eq_true rfl) ?_
  conv => whnf
  refine .call [] 0 ⟨rfl, rfl, rfl⟩ (high_spec ?_)
  conv => whnf
  refine .call [] 0 ⟨rfl, rfl, rfl⟩ (high_spec ?_)
  conv => whnf
  have hw : IntKind.i64.wrap (((a.ht : Nat) : Int) - ((b.ht : Nat) : Int)) = ((a.ht : Nat) : Int) - ((b.ht : Nat) : Int) := by rw [IntKind.wrap_i64]; omega
  refine ⟨[0, 1, 2, 3, 4, 5, 6, 8, 9, 10, 11, 7, 12, 13, 14, 15], by kernel_rfl, by kernel_rfl, ?_⟩
  conv => whnf
  refine branch_i (fun c => ?_) (fun c => ?_) <;> try rw [c] <;> conv => whnf
  · have c' := of_decide_eq_true c
    rw [hw] at c'
    cases a with
    | nil => exfalso; simp only [Tr.ht] at c'; omega
    | node ak av aa ab =>
    have hm : (Tr.node ak av aa ab).ht = 1 + max aa.ht ab.ht := rfl
    unfold evenT at h
    rw [if_pos (by omega)] at h
    dsimp only at h
    conv => whnf
    refine .call [] 0 ⟨rfl, rfl, rfl⟩ (high_spec ?_)
    repeat (refine ⟨rfl, ?_⟩)
    conv => whnf
    refine .call [] 0 ⟨rfl, rfl, rfl⟩ (high_spec ?_)
    repeat (refine ⟨rfl, ?_⟩)
    conv => whnf
    refine branch_i (fun c2 => ?_) (fun c2 => ?_) <;> try rw [c2] <;> conv => whnf
    · have c2' := of_decide_eq_true c2
      rw [if_pos (by omega)] at h
      refine ⟨[0, 1, 2, 3, 4, 5, 6, 7, 8, 9, 10, 11, 12, 13], by kernel_rfl, by kernel_rfl, ?_⟩
      conv => whnf
      refine .call [] 0 ⟨rfl, rfl, rfl⟩ (made_spec (by omega) (by omega) ?_)
      repeat (refine ⟨rfl, ?_⟩)
      conv => whnf
      refine .call [] 0 ⟨rfl, rfl, rfl⟩ (made_spec (by omega) (by simp only [Tr.ht]; omega) ?_)
      repeat (refine ⟨rfl, ?_⟩)
      conv => whnf
      exact ⟨[], rfl, h⟩
    · have c2' := of_decide_eq_false c2
      rw [if_neg (by omega)] at h
      rw [c]
      conv => whnf
      cases ab with
      | nil => exfalso; simp only [Tr.ht] at c2'; omega
      | node mk mv ma mb =>
      have hm2 : (Tr.node mk mv ma mb).ht = 1 + max ma.ht mb.ht := rfl
      refine ⟨[0, 1, 2, 3, 4, 5, 6, 7, 8, 9, 11, 12, 13, 14, 15, 16, 10, 17, 18, 19], by kernel_rfl, by kernel_rfl, ?_⟩
      conv => whnf
      refine .call [] 0 ⟨rfl, rfl, rfl⟩ (made_spec (by omega) (by omega) ?_)
      repeat (refine ⟨rfl, ?_⟩)
      conv => whnf
      refine .call [] 0 ⟨rfl, rfl, rfl⟩ (made_spec (by omega) (by omega) ?_)
      repeat (refine ⟨rfl, ?_⟩)
      conv => whnf
      refine .call [] 0 ⟨rfl, rfl, rfl⟩ (made_spec (by simp only [Tr.ht]; omega) (by simp only [Tr.ht]; omega) ?_)
      repeat (refine ⟨rfl, ?_⟩)
      conv => whnf
      exact ⟨[], rfl, h⟩
  · have c' := of_decide_eq_false c
    rw [hw] at c'
    rw [c]
    conv => whnf
    refine ⟨[0, 1, 2, 3, 4, 5, 6, 8, 9, 10, 11, 7, 12, 13, 14, 15], by kernel_rfl, by kernel_rfl, ?_⟩
    conv => whnf
    unfold evenT at h
    rw [if_neg (by omega)] at h
    refine branch_i (fun c3 => ?_) (fun c3 => ?_) <;> try rw [c3] <;> conv => whnf
    · have c3' := of_decide_eq_true c3
      rw [hw] at c3'
      cases b with
      | nil => exfalso; simp only [Tr.ht] at c3'; omega
      | node bk bv ba bb =>
      have hm : (Tr.node bk bv ba bb).ht = 1 + max ba.ht bb.ht := rfl
      rw [if_pos (by omega)] at h
      dsimp only at h
      conv => whnf
      refine .call [] 0 ⟨rfl, rfl, rfl⟩ (high_spec ?_)
      repeat (refine ⟨rfl, ?_⟩)
      conv => whnf
      refine .call [] 0 ⟨rfl, rfl, rfl⟩ (high_spec ?_)
      repeat (refine ⟨rfl, ?_⟩)
      conv => whnf
      refine branch_i (fun c2 => ?_) (fun c2 => ?_) <;> try rw [c2] <;> conv => whnf
      · have c2' := of_decide_eq_true c2
        rw [if_pos (by omega)] at h
        refine ⟨[0, 1, 2, 3, 4, 5, 6, 8, 9, 10, 11, 7, 12, 13], by kernel_rfl, by kernel_rfl, ?_⟩
        conv => whnf
        refine .call [] 0 ⟨rfl, rfl, rfl⟩ (made_spec (by omega) (by omega) ?_)
        repeat (refine ⟨rfl, ?_⟩)
        conv => whnf
        refine .call [] 0 ⟨rfl, rfl, rfl⟩ (made_spec (by simp only [Tr.ht]; omega) (by omega) ?_)
        repeat (refine ⟨rfl, ?_⟩)
        conv => whnf
        exact ⟨[], rfl, h⟩
      · have c2' := of_decide_eq_false c2
        rw [if_neg (by omega)] at h
        rw [c3]
        conv => whnf
        cases ba with
        | nil => exfalso; simp only [Tr.ht] at c2'; omega
        | node mk mv ma mb =>
        have hm2 : (Tr.node mk mv ma mb).ht = 1 + max ma.ht mb.ht := rfl
        refine ⟨[0, 1, 2, 3, 4, 5, 6, 8, 9, 10, 11, 12, 13, 14, 15, 16, 7, 17, 18, 19], by kernel_rfl, by kernel_rfl, ?_⟩
        conv => whnf
        refine .call [] 0 ⟨rfl, rfl, rfl⟩ (made_spec (by omega) (by omega) ?_)
        repeat (refine ⟨rfl, ?_⟩)
        conv => whnf
        refine .call [] 0 ⟨rfl, rfl, rfl⟩ (made_spec (by omega) (by omega) ?_)
        repeat (refine ⟨rfl, ?_⟩)
        conv => whnf
        refine .call [] 0 ⟨rfl, rfl, rfl⟩ (made_spec (by simp only [Tr.ht]; omega) (by simp only [Tr.ht]; omega) ?_)
        repeat (refine ⟨rfl, ?_⟩)
        conv => whnf
        exact ⟨[], rfl, h⟩
    · have c3' := of_decide_eq_false c3
      rw [hw] at c3'
      rw [if_neg (by omega)] at h
      rw [c3]
      conv => whnf
      refine .call [] 0 ⟨rfl, rfl, rfl⟩ (made_spec (by omega) (by omega) ?_)
      conv => whnf
      exact ⟨[], rfl, h⟩

theorem from_spec {key : List UInt8} {J : List (List V) → List O → Prop} {S : List O → Prop} {ks : List Pl} {L : List (List V)} (hy : YieldS Tryd.prog ks J S L) : ∀ (t : Tr Rw) (pre post : List (List V)) (B : List Nat) {Q : V → List O → Prop},
    pre ++ (encKV fR (fromL key t) ++ post) = L → (∀ B', Q (.bool true) [.res (packR (J (pre ++ encKV fR (fromL key t))) ks B') B']) → (∀ B', Q (.bool false) [.res (packR S ks B') B']) →
    ACall Tryd.prog 66 1 [.im (encT fR t), .str key, .yld 0] [.res (packR (J pre) ks B) B] Q := by
  intro t
  induction t with
  | nil =>
    intro pre post B Q hL h1 h2
    refine by_body Tryd.func66 1 rfl (Nat.le_of_ble_eq_true rfl) ?_
    conv => whnf
    simp only [fromL, encKV, List.map_nil, List.append_nil] at h1
    exact ⟨[0], rfl, h1 B⟩
  | node k v a b iha ihb =>
    intro pre post B Q hL h1 h2
    refine by_body Tryd.func66 1 rfl (Nat.le_of_ble_eq_true rfl) ?_
    conv => whnf
    refine ⟨[0, 1, 2, 3, 4, 5, 6, 7, 8, 9, 10, 11, 12, 13, 14, 15, 16, 17, 18, 19, 20, 21, 22, 23, 24, 25, 26, 27, 28], by kernel_rfl, by kernel_rfl, ?_⟩
    conv => whnf
    refine branch_i (fun c => ?_) (fun c => ?_) <;> try rw [c] <;> conv => whnf
    · have e : fromL key (.node k v a b) = fromL key a ++ ((k, v) :: fromL key b) := by simp [fromL, leS, c]
      rw [e] at hL h1
      simp only [encKV, List.map_append, List.map_cons, List.append_assoc, List.cons_append] at hL h1
      refine .call [0] 1 ⟨rfl, rfl, rfl⟩ (iha pre ([.str k, fR v] :: (encKV fR (fromL key b) ++ post)) B (by simpa [encKV] using hL) (fun B1 => ?_) (fun B1 => ?_))
      · repeat (refine ⟨rfl, ?_⟩)
        conv => whnf
        refine .call [0] 1 ⟨rfl, rfl, rfl⟩ (AYield.mono (hy (pre ++ encKV fR (fromL key a)) [.str k, fR v] (encKV fR (fromL key b) ++ post) B1 (by simpa [encKV] using hL)) ?_)
        rintro r H' ⟨B2, ⟨rfl, rfl⟩ | ⟨rfl, rfl⟩⟩
        · repeat (refine ⟨rfl, ?_⟩)
          conv => whnf
          refine .call [0] 1 ⟨rfl, rfl, rfl⟩ (ihb (pre ++ encKV fR (fromL key a) ++ [[.str k, fR v]]) post B2 (by simpa [encKV] using hL) (fun B3 => ?_) (fun B3 => ?_))
          · conv => whnf
            exact ⟨[0], rfl, (congrArg (fun l => Q (.bool true) [.res (packR (J l) ks B3) B3]) (by simp [encKV])).mp (h1 B3)⟩
          · conv => whnf
            exact ⟨[0], rfl, h2 B3⟩
        · repeat (refine ⟨rfl, ?_⟩)
          conv => whnf
          exact ⟨[0], rfl, h2 B2⟩
      · repeat (refine ⟨rfl, ?_⟩)
        conv => whnf
        exact ⟨[0], rfl, h2 B1⟩
    · have e : fromL key (.node k v a b) = fromL key b := by simp [fromL, leS, c]
      rw [e] at hL h1
      refine .call [0] 1 ⟨rfl, rfl, rfl⟩ (ihb pre post B hL (fun B3 => ?_) (fun B3 => ?_))
      · conv => whnf
        exact ⟨[0], rfl, h1 B3⟩
      · conv => whnf
        exact ⟨[0], rfl, h2 B3⟩

theorem put_spec {key : List UInt8} {v0 : Rw} : ∀ (t : Tr Rw), t.ht < 1152921504606846976 → ∀ {Q : V → List O → Prop}, Q (.im (encT fR (putT key v0 t))) [] → ACall Tryd.prog 64 0 [.im (encT fR t), .str key, fR v0] [] Q := by
  intro t
  induction t with
  | nil =>
    intro hh Q h
    refine ACall.im (ACall.sub (ACall.sel (ACall.frz 0 (by_body Tryd.func64 0 rfl (Nat.le_of_ble_eq_true rfl) ?_))))
    conv => whnf
    refine ⟨[0], rfl, rfl, [], rfl, _, [], VSub.ip (cs' := [.str key, fR v0, .int .i64 1, .im .nilp, .im .nilp]) (.cons (.refl _) (.cons (.refl _) (.cons (.refl _) (.cons (.im rfl) (.cons (.im rfl) .nil))))), .nil, rfl, h⟩
  | node k v a b iha ihb =>
    intro hh Q h
    have hm : (Tr.node k v a b).ht = 1 + max a.ht b.ht := rfl
    have h1 := ht_put key v0 a
    have h2 := ht_put key v0 b
    by_cases c1 : Op.bytesLess key k = true
    · simp only [putT, if_pos c1] at h
      refine by_body Tryd.func64 0 rfl (Nat.le_of_ble_eq_true rfl) ?_
      conv => whnf
      rw [c1]
      conv => whnf
      refine ⟨[0, 1, 2, 3, 4, 5, 6, 8, 9, 10, 11, 7, 12, 13], by kernel_rfl, by kernel_rfl, ?_⟩
      conv => whnf
      refine .call [] 0 ⟨rfl, rfl, rfl⟩ (iha (by omega) ?_)
      repeat (refine ⟨rfl, ?_⟩)
      conv => whnf
      refine .call [] 0 ⟨rfl, rfl, rfl⟩ (even_spec (by omega) (by omega) ?_)
      repeat (refine ⟨rfl, ?_⟩)
      conv => whnf
      exact ⟨[], rfl, h⟩
    · simp only [putT, if_neg c1] at h
      have c1' : Op.bytesLess key k = false := by simpa using c1
      by_cases c2 : Op.bytesLess k key = true
      · simp only [if_pos c2] at h
        have hne : decide (key = k) = false := by
          simp only [decide_eq_false_iff_not]
          intro e
          rw [e] at c2 c1'
          rw [c2] at c1'; cases c1'
        refine by_body Tryd.func64 0 rfl (Nat.le_of_ble_eq_true rfl) ?_
        conv => whnf
        rw [c1']
        conv => whnf
        rw [c1', hne]
        conv => whnf
        refine ⟨[0, 1, 2, 3, 4, 5, 6, 7, 8, 9, 10, 11, 12, 13], by kernel_rfl, by kernel_rfl, ?_⟩
        conv => whnf
        refine .call [] 0 ⟨rfl, rfl, rfl⟩ (ihb (by omega) ?_)
        repeat (refine ⟨rfl, ?_⟩)
        conv => whnf
        refine .call [] 0 ⟨rfl, rfl, rfl⟩ (even_spec (by omega) (by omega) ?_)
        repeat (refine ⟨rfl, ?_⟩)
        conv => whnf
        exact ⟨[], rfl, h⟩
      · simp only [if_neg c2] at h
        have c2' : Op.bytesLess k key = false := by simpa using c2
        have he : key = k := less_total c1' c2'
        subst he
        refine ACall.sel (ACall.im (ACall.frz 0 (by_body Tryd.func64 0 rfl (Nat.le_of_ble_eq_true rfl) ?_)))
        conv => whnf
        rw [c1']
        conv => whnf
        rw [c1', show decide (key = key) = true by simp]
        conv => whnf
        refine ⟨[0, 1, 2, 3, 4, 5, 6, 7, 8, 9, 10, 11, 12, 13, 14, 15, 16], by kernel_rfl, by kernel_rfl, ?_⟩
        conv => whnf
        exact ⟨[0], rfl, rfl, rfl, [], rfl, h⟩

theorem first_spec {k : List UInt8} {v : Rw} {a b : Tr Rw} (h : ∀ b', Q (.im (encT fR (.node (firstT (k, v) a).1 (firstT (k, v) a).2 .nil b'))) []) : ACall Tryd.prog 91 0 [.im (encT fR (.node k v a b))] [] Q := by
  refine by_body Tryd.func91 0 rfl (Nat.le_of_ble_eq_true rfl) ?_
  conv => whnf
  refine ⟨⟨[0], fun n vs H => H = [] ∧ ∃ k' v' a' b', vs = [.im (encT fR (.node k' v' a' b'))] ∧ firstT (k', v') a' = firstT (k, v) a ∧ n = a'.size, .at (a.size) ⟨rfl, k, v, a, b, rfl, rfl, rfl⟩, ?_⟩⟩
  rintro n vs H ⟨rfl, k', v', a', b', rfl, he, rfl⟩
  cases a' with
  | nil =>
    conv => whnf
    simp only [firstT] at he
    refine ⟨[], rfl, ?_⟩
    have := h b'
    rw [← he] at this
    exact this
  | node k2 v2 a2 b2 =>
    conv => whnf
    exact .go [] rfl a2.size (by simp only [Tr.size]; omega) ⟨rfl, k2, v2, a2, b2, rfl, he, rfl⟩

theorem tcut_spec : ∀ (t : Tr Rw) (key : List UInt8), t.ht < 1152921504606846976 → ∀ {Q : V → List O → Prop}, Q (.im (encT fR (cutT key t))) [] → ACall Tryd.prog 82 0 [.im (encT fR t), .str key] [] Q := by
  intro t
  induction t with
  | nil =>
    intro key hh Q h
    refine ACall.im (by_body Tryd.func82 0 rfl (Nat.le_of_ble_eq_true rfl) ?_)
    conv => whnf
    exact ⟨[], rfl, rfl, h⟩
  | node k v a b iha ihb =>
    intro key hh Q h
    have hm : (Tr.node k v a b).ht = 1 + max a.ht b.ht := rfl
    have h1 := ht_cut a key
    have h2 := fun key => ht_cut b key
    refine by_body Tryd.func82 0 rfl (Nat.le_of_ble_eq_true rfl) ?_
    unfold cutT at h
    by_cases c1 : Op.bytesLess key k = true
    · rw [if_pos c1] at h
      conv => whnf
      rw [c1]
      conv => whnf
      refine ⟨[0, 1, 2, 3, 4, 5, 7, 8, 9, 10, 6, 11, 12], by kernel_rfl, by kernel_rfl, ?_⟩
      conv => whnf
      refine .call [] 0 ⟨rfl, rfl, rfl⟩ (iha key (by omega) ?_)
      repeat (refine ⟨rfl, ?_⟩)
      conv => whnf
      refine .call [] 0 ⟨rfl, rfl, rfl⟩ (even_spec (by omega) (by omega) ?_)
      repeat (refine ⟨rfl, ?_⟩)
      conv => whnf
      exact ⟨[], rfl, h⟩
    · rw [if_neg c1] at h
      have c1' : Op.bytesLess key k = false := by simpa using c1
      conv => whnf
      rw [c1']
      conv => whnf
      by_cases c2 : Op.bytesLess k key = true
      · rw [if_pos c2] at h
        have hne : decide (key = k) = false := decide_eq_false (less_ne c2).symm
        rw [c1', hne]
        conv => whnf
        refine ⟨[0, 1, 2, 3, 4, 5, 6, 7, 8, 9, 10, 11, 12], by kernel_rfl, by kernel_rfl, ?_⟩
        conv => whnf
        refine .call [] 0 ⟨rfl, rfl, rfl⟩ (ihb key (by omega) ?_)
        repeat (refine ⟨rfl, ?_⟩)
        conv => whnf
        have := h2 key
        refine .call [] 0 ⟨rfl, rfl, rfl⟩ (even_spec (by omega) (by omega) ?_)
        repeat (refine ⟨rfl, ?_⟩)
        conv => whnf
        exact ⟨[], rfl, h⟩
      · rw [if_neg c2] at h
        have c2' : Op.bytesLess k key = false := by simpa using c2
        have he : key = k := less_total c1' c2'
        rw [c1', show decide (key = k) = true by simp [he]]
        conv => whnf
        cases a with
        | nil =>
          conv => whnf
          exact ⟨[], rfl, h⟩
        | node ak av aa ab =>
          conv => whnf
          cases b with
          | nil =>
            conv => whnf
            exact ⟨[], rfl, h⟩
          | node bk bv ba bb =>
            simp only at h
            conv => whnf
            refine .call [] 0 ⟨rfl, rfl, rfl⟩ (first_spec fun b' => ?_)
            conv => whnf
            refine ⟨[0, 1, 2, 3, 4, 5, 6, 7, 8, 9, 10, 11, 12, 13, 14, 15], by kernel_rfl, by kernel_rfl, ?_⟩
            conv => whnf
            refine .call [] 0 ⟨rfl, rfl, rfl⟩ (ihb _ (by omega) ?_)
            repeat (refine ⟨rfl, ?_⟩)
            conv => whnf
            have := h2 (firstT (bk, bv) ba).1
            refine .call [] 0 ⟨rfl, rfl, rfl⟩ (even_spec (by omega) (by omega) ?_)
            repeat (refine ⟨rfl, ?_⟩)
            conv => whnf
            exact ⟨[], rfl, h⟩

abbrev treeO (t : Tr Rw) (n : Int) : O := .cells [.im (encT fR t), .int .i64 n]

theorem TNew_spec (h : Q (.ptr 0 0) [treeO .nil 0]) : ACall Tryd.prog 34 0 [] [] Q := by
  refine ACall.sub (by_body Tryd.func34 0 rfl (Nat.le_of_ble_eq_true rfl) ?_)
  conv => whnf
  exact ⟨[0], rfl, _, _, .refl _, .cons (.cells (cs' := [.im .nilp, .int .i64 0]) (.cons (.im rfl) (.cons (.refl _) .nil))) .nil, h⟩

theorem find_spec {t : Tr Rw} {n : Int} {key : List UInt8} (h : Q (.im (encT fR (fndT key t))) [treeO t n]) : ACall Tryd.prog 63 1 [.ptr 0 0, .str key] [treeO t n] Q := by
  refine by_body Tryd.func63 1 rfl (Nat.le_of_ble_eq_true rfl) ?_
  conv => whnf
  refine ⟨⟨[1, 5], fun m vs H => H = [treeO t n] ∧ ∃ x, vs = [.str key, .im (encT fR x)] ∧ fndT key x = fndT key t ∧ m = x.size, .at (t.size) ⟨rfl, t, rfl, rfl, rfl⟩, ?_⟩⟩
  rintro m vs H ⟨rfl, x, rfl, he, rfl⟩
  cases x with
  | nil =>
    conv => whnf
    rw [← he] at h
    exact ⟨[0], rfl, h⟩
  | node k v a b =>
    conv => whnf
    by_cases ck : k = key
    · rw [show decide (k = key) = true by simp [ck]]
      conv => whnf
      simp only [fndT, if_pos ck] at he
      rw [← he] at h
      exact ⟨[0], rfl, h⟩
    · rw [show decide (k = key) = false by simp [ck]]
      simp only [fndT, if_neg ck] at he
      conv => whnf
      refine branch_i (fun c => ?_) (fun c => ?_) <;> try rw [c] <;> conv => whnf
      · rw [if_pos c] at he
        exact .go [0] rfl a.size (by simp only [Tr.size]; omega) ⟨rfl, a, rfl, he, rfl⟩
      · rw [if_neg (by simp [c])] at he
        exact .go [0] rfl b.size (by simp only [Tr.size]; omega) ⟨rfl, b, rfl, he, rfl⟩

theorem nn_not (b : Bool) : (!(!b)) = b := by cases b <;> rfl

theorem Put_spec {t : Tr Rw} {n : Int} {key : List UInt8} {v : Rw} (ht : t.ht < 1152921504606846976) (h : Q (.bool (!(fndT key t).isNil)) [treeO (putT key v t) (if (fndT key t).isNil then IntKind.i64.wrap (n + 1) else n)]) :
    ACall Tryd.prog 37 1 [.ptr 0 0, .str key, fR v] [treeO t n] Q := by
  refine by_body Tryd.func37 1 rfl (Nat.le_of_ble_eq_true rfl) ?_
  conv => whnf
  refine .call [0] 1 ⟨rfl, rfl, rfl⟩ (find_spec ?_)
  conv => whnf
  cases hf : fndT key t with
  | nil =>
    rw [hf] at h
    conv => whnf
    refine .call [] 0 ⟨rfl, rfl, rfl⟩ (put_spec t ht ?_)
    conv => whnf
    exact ⟨[0], rfl, h⟩
  | node k w a b =>
    rw [hf] at h
    conv => whnf
    refine .call [] 0 ⟨rfl, rfl, rfl⟩ (put_spec t ht ?_)
    conv => whnf
    exact ⟨[0], rfl, h⟩

theorem Cut_spec {t : Tr Rw} {n : Int} {key : List UInt8} (ht : t.ht < 1152921504606846976) (h : Q (.bool (!(fndT key t).isNil)) [treeO (if (fndT key t).isNil then t else cutT key t) (if (fndT key t).isNil then n else IntKind.i64.wrap (n - 1))]) :
    ACall Tryd.prog 71 1 [.ptr 0 0, .str key] [treeO t n] Q := by
  refine by_body Tryd.func71 1 rfl (Nat.le_of_ble_eq_true rfl) ?_
  conv => whnf
  refine .call [0] 1 ⟨rfl, rfl, rfl⟩ (find_spec ?_)
  conv => whnf
  cases hf : fndT key t with
  | nil =>
    rw [hf] at h
    conv => whnf
    exact ⟨[0], rfl, h⟩
  | node k w a b =>
    rw [hf] at h
    conv => whnf
    refine .call [] 0 ⟨rfl, rfl, rfl⟩ (tcut_spec t key ht ?_)
    conv => whnf
    exact ⟨[0], rfl, h⟩

theorem Len_spec {t : Tr Rw} {n : Int} (h : Q (.int .i64 n) [treeO t n]) : ACall Tryd.prog 50 1 [.ptr 0 0] [treeO t n] Q := by
  refine by_body Tryd.func50 1 rfl (Nat.le_of_ble_eq_true rfl) ?_
  conv => whnf
  exact ⟨[0], rfl, h⟩

theorem From_spec {t : Tr Rw} {n : Int} {key : List UInt8} (h : Q (.fn (.func 65) [] [.ptr 1 0, .ptr 2 0]) [treeO t n, .cells [.ptr 0 0], .cells [.str key]]) :
    ACall Tryd.prog 39 1 [.ptr 0 0, .str key] [treeO t n] Q := by
  refine by_body Tryd.func39 1 rfl (Nat.le_of_ble_eq_true rfl) ?_
  conv => whnf
  exact ⟨[0, 1, 2], rfl, h⟩

theorem From1_spec {t : Tr Rw} {n : Int} {key : List UInt8} {J : List (List V) → List O → Prop} {S J' : List O → Prop} {ks : List Pl} (hy : YieldS Tryd.prog ks J S (encKV fR (fromL key t))) {B : List Nat} (hJ : ∀ Hs, J (encKV fR (fromL key t)) Hs → J' Hs) (hS : ∀ Hs, S Hs → J' Hs)
    (h : ∀ B', Q (.tup []) [.res (packR J' ks B') B', treeO t n, .cells [.ptr 1 0], .cells [.str key]]) :
    ACall Tryd.prog 65 4 [.yld 0, .ptr 2 0, .ptr 3 0] [.res (packR (J []) ks B) B, treeO t n, .cells [.ptr 1 0], .cells [.str key]] Q := by
  refine ACall.sub (by_body Tryd.func65 4 rfl (Nat.le_of_ble_eq_true rfl) ?_)
  conv => whnf
  refine ⟨[0, 1, 2, 3, 4, 5, 6], by kernel_rfl, by kernel_rfl, ?_⟩
  conv => whnf
  refine .call [0] 1 ⟨rfl, rfl, rfl⟩ (from_spec hy t [] [] B (by simp) (fun B' => ?_) (fun B' => ?_))
  · repeat (refine ⟨rfl, ?_⟩)
    conv => whnf
    exact ⟨[0, 1, 2, 3], rfl, _, _, .refl _, .cons (.pk ks B' hJ) (HSub.refl _), h B'⟩
  · repeat (refine ⟨rfl, ?_⟩)
    conv => whnf
    exact ⟨[0, 1, 2, 3], rfl, _, _, .refl _, .cons (.pk ks B' hS) (HSub.refl _), h B'⟩

end Go.Proofs.YtgikkoeckdhgkaaDoorPg

/- Values: the document's functions. -/
namespace Go.Proofs.YtgikkoeckdhgkaaDoorPg
open Go Go.RowKit
set_option linter.unusedSimpArgs false
set_option linter.unusedVariables false

variable {Q : V → List O → Prop}

theorem wrapI {n : Int} (h : -9223372036854775808 ≤ n ∧ n ≤ 9223372036854775807) : IntKind.i64.wrap n = n := by rw [IntKind.wrap_i64]; omega

theorem drop_cons {s : List UInt8} {i : Nat} {c : UInt8} {r : List UInt8} (h : s.drop i = c :: r) : i < s.length ∧ s[i]? = some c ∧ ∀ k, s[i + 1 + k]? = r[k]? := by
  have hl : i < s.length := by
    rcases Nat.lt_or_ge i s.length with h1 | h1
    · exact h1
    · rw [List.drop_of_length_le h1] at h; cases h
  have e : ∀ k, s[i + k]? = (c :: r)[k]? := fun k => by rw [← h, List.getElem?_drop]
  exact ⟨hl, by simpa using e 0, fun k => by have := e (k + 1); rw [show i + 1 + k = i + (k + 1) by omega, this]; simp⟩

set_option maxRecDepth 10000 in
set_option maxHeartbeats 4000000 in
theorem utf8_spec {s : List UInt8} (hs : s.length < 1000000000000000000) (h : Q (.bool (u8 s)) []) : ACall Tryd.prog 72 0 [.str s] [] Q := by
  refine by_body Tryd.func72 0 rfl (Nat.le_of_ble_eq_true rfl) ?_
  conv => whnf
  refine ⟨⟨[0, 3], fun m vs H => ∃ i : Nat, vs = [.str s, fI i] ∧ H = [] ∧ u8 s = u8 (s.drop i) ∧ i ≤ s.length ∧ m = s.length - i, .at _ ⟨0, rfl, rfl, by simp, Nat.zero_le _, rfl⟩, ?_⟩⟩
  rintro m vs H ⟨i, rfl, rfl, hu, hi, rfl⟩
  conv => whnf
  refine branch_i (fun c1 => ?_) (fun c1 => ?_) <;> try rw [c1] <;> conv => whnf
  rotate_left
  focus
    have c1' := of_decide_eq_false c1
    rw [List.drop_of_length_le (by omega), u8_nil] at hu
    rw [hu] at h
    exact ⟨[], rfl, h⟩
  have c1' := of_decide_eq_true c1
  obtain ⟨c, r, hd⟩ : ∃ c r, s.drop i = c :: r := by
    cases hx : s.drop i with
    | nil => have := List.drop_eq_nil_iff.1 hx; omega
    | cons c r => exact ⟨c, r, rfl⟩
  obtain ⟨h1, h2, h3⟩ := drop_cons hd
  have hlr : r.length = s.length - i - 1 := by have := congrArg List.length hd; rw [List.length_drop, List.length_cons] at this; omega
  rw [hd, u8_cons] at hu
  have hc : c.toNat < 256 := c.toNat_lt
  refine ⟨c, ⟨by omega, h2⟩, ?_⟩
  conv => whnf
  rw [wrapI (n := (c.toNat : Int)) (by omega)]
  unfold u8head at hu
  refine branch_i (fun c2 => ?_) (fun c2 => ?_) <;> try rw [c2] <;> conv => whnf
  focus
    have c2' := of_decide_eq_true c2
    rw [if_pos c2'] at hu
    have hu : u8 s = u8 r := hu
    refine .go [] rfl (s.length - (i + 1)) (by omega) ⟨i + 1, ?_, rfl, ?_, by omega, rfl⟩
    · show [V.str s, V.int .i64 (IntKind.i64.wrap ((i : Int) + 1))] = _
      rw [wrapI (by omega)]; rfl
    · have : s.drop (i + 1) = r := by rw [← List.drop_drop, hd]; rfl
      rw [hu, this]
  have c2' := of_decide_eq_false c2
  rw [if_neg c2'] at hu
  by_cases a1 : (c.toNat : Int) < 192
  focus
    rw [show lead c.toNat = none by unfold lead; rw [if_pos a1]] at hu
    have hu : u8 s = false := hu
    rw [hu] at h
    rw [show decide (192 ≤ (c.toNat : Int)) = false by simp; omega]
    conv => whnf
    rw [show decide (224 ≤ (c.toNat : Int)) = false by simp; omega]
    conv => whnf
    rw [show decide (240 ≤ (c.toNat : Int)) = false by simp; omega]
    conv => whnf
    exact ⟨[], rfl, h⟩
  rw [show decide (192 ≤ (c.toNat : Int)) = true by simp; omega]
  conv => whnf
  by_cases a2 : (c.toNat : Int) < 224
  focus
    rw [show decide ((c.toNat : Int) < 224) = true by simp; omega]
    conv => whnf
    have hl : lead (c.toNat : Int) = some (1, 128, (c.toNat : Int) - 192) := by unfold lead; rw [if_neg a1, if_pos a2]
    rw [hl] at hu
    rw [wrapI (n := (c.toNat : Int) - 192) (by omega), wrapI (n := (i : Int) + 2) (by omega)]
    refine branch_i (fun b1 => ?_) (fun b1 => ?_) <;> try rw [b1] <;> conv => whnf
    focus
      have b1' := of_decide_eq_true b1
      have hu : u8 s = false := by rw [hu]; simp only [if_pos (show r.length < 1 by omega)]
      rw [hu] at h
      exact ⟨[], rfl, h⟩
    have b1' := of_decide_eq_false b1
    simp only [if_neg (show ¬ r.length < 1 by omega)] at hu
    have hv0b : 0 ≤ (c.toNat : Int) - 192 ∧ (c.toNat : Int) - 192 < 32 := by omega
    generalize (c.toNat : Int) - 192 = v0 at *
    refine ⟨⟨[0, 3, 5, 6, 7, 8], fun m vs H => ∃ (k : Nat) (v : Int), vs = [.str s, fI i, fI 2, fI 128, fI v, fI ((k + 1 : Nat) : Int)] ∧ H = [] ∧ k ≤ 1 ∧ cv r v0 k = some v ∧ m = 1 - k, .at _ ⟨0, v0, rfl, rfl, Nat.zero_le _, rfl, rfl⟩, ?_⟩⟩
    rintro m vs H ⟨k, v, rfl, rfl, hk, hcv, rfl⟩
    conv => whnf
    refine branch_i (fun b2 => ?_) (fun b2 => ?_) <;> try rw [b2] <;> conv => whnf
    focus
      have b2' := of_decide_eq_true b2
      have hb := cv_bound hv0b hcv
      have hv : v < 131072 := by
        have hk3 : k = 0 ∨ k = 1 ∨ k = 2 := by omega
        rcases hk3 with rfl | rfl | rfl <;> simp at hb <;> omega
      have hkr : k < r.length := by omega
      have hg : r[k]? = some r[k] := List.getElem?_eq_getElem hkr
      generalize r[k] = d at *
      have hdl : d.toNat < 256 := d.toNat_lt
      rw [wrapI (n := (i : Int) + ((k + 1 : Nat) : Int)) (by omega)]
      refine ⟨d, ⟨by omega, by rw [show ((i : Int) + ((k + 1 : Nat) : Int)).toNat = i + 1 + k by omega, h3 k, hg]⟩, ?_⟩
      conv => whnf
      rw [wrapI (n := (d.toNat : Int)) (by omega)]
      have bad : ¬ (128 ≤ d.toNat ∧ d.toNat < 192) → u8 s = false := fun hbad => by
        have e : cv r v0 (k + 1) = none := by simp only [cv, hcv, hg, if_neg hbad]
        rw [hu, cv_none e (m := 1) (by omega)]
      by_cases e1 : (d.toNat : Int) < 128
      focus
        rw [bad (by omega)] at h
        rw [show decide ((d.toNat : Int) < 128) = true by simp; omega]
        conv => whnf
        exact ⟨[], rfl, h⟩
      rw [show decide ((d.toNat : Int) < 128) = false by simp; omega]
      conv => whnf
      by_cases e2 : 192 ≤ (d.toNat : Int)
      focus
        rw [bad (by omega)] at h
        rw [show decide (192 ≤ (d.toNat : Int)) = true by simp; omega]
        conv => whnf
        exact ⟨[], rfl, h⟩
      rw [show decide (192 ≤ (d.toNat : Int)) = false by simp; omega]
      conv => whnf
      refine .go [] rfl (1 - (k + 1)) (by omega) ⟨k + 1, 64 * v + d.toNat - 128, ?_, rfl, by omega, by simp only [cv, hcv, hg]; rw [if_pos (by omega)], rfl⟩
      show [V.str s, fI i, fI 2, fI 128, V.int .i64 (IntKind.i64.wrap (IntKind.i64.wrap (IntKind.i64.wrap (64 * v) + d.toNat) - 128)), V.int .i64 (IntKind.i64.wrap (((k + 1 : Nat) : Int) + 1))] = _
      rw [wrapI (n := 64 * v) (by omega), wrapI (n := 64 * v + d.toNat) (by omega), wrapI (n := 64 * v + d.toNat - 128) (by omega), wrapI (n := ((k + 1 : Nat) : Int) + 1) (by omega)]; rfl
    have b2' := of_decide_eq_false b2
    have hkn : k = 1 := by omega
    subst hkn
    rw [hcv] at hu
    have hdr : s.drop (i + 2) = r.drop 1 := by
      rw [show i + 2 = i + 1 + 1 by omega, ← List.drop_drop, show s.drop (i + 1) = r by rw [← List.drop_drop, hd]; rfl]
    have yes : badV v 128 = true → u8 s = false := fun hb => by rw [hu]; simp only [hb, if_true]
    have no : badV v 128 = false → u8 s = u8 (r.drop 1) := fun hb => by rw [hu]; simp only [hb, Bool.false_eq_true, if_false]
    unfold badV at yes no
    refine branch_i (fun d1 => ?_) (fun d1 => ?_) <;> rw [d1] at yes no <;> try rw [d1] <;> conv => whnf
    focus rw [yes rfl] at h; exact ⟨[], rfl, h⟩
    refine branch_i (fun d2 => ?_) (fun d2 => ?_) <;> rw [d2] at yes no <;> try rw [d2] <;> conv => whnf
    focus rw [yes rfl] at h; exact ⟨[], rfl, h⟩
    refine branch_i (fun d3 => ?_) (fun d3 => ?_) <;> rw [d3] at yes no <;> try rw [d3] <;> conv => whnf
    focus
      refine branch_i (fun d4 => ?_) (fun d4 => ?_) <;> rw [d4] at yes no <;> try rw [d4] <;> conv => whnf
      focus rw [yes rfl] at h; exact ⟨[], rfl, h⟩
    all_goals
      refine .go [] rfl (s.length - (i + 2)) (by omega) ⟨i + 2, ?_, rfl, by rw [no rfl, hdr], by omega, rfl⟩
      show [V.str s, V.int .i64 (IntKind.i64.wrap ((i : Int) + 2))] = _
      rw [wrapI (by omega)]; rfl
  rw [show decide ((c.toNat : Int) < 224) = false by simp; omega]
  conv => whnf
  rw [show decide (224 ≤ (c.toNat : Int)) = true by simp; omega]
  conv => whnf
  by_cases a3 : (c.toNat : Int) < 240
  focus
    rw [show decide ((c.toNat : Int) < 240) = true by simp; omega]
    conv => whnf
    have hl : lead (c.toNat : Int) = some (2, 2048, (c.toNat : Int) - 224) := by unfold lead; rw [if_neg a1, if_neg a2, if_pos a3]
    rw [hl] at hu
    rw [wrapI (n := (c.toNat : Int) - 224) (by omega), wrapI (n := (i : Int) + 3) (by omega)]
    refine branch_i (fun b1 => ?_) (fun b1 => ?_) <;> try rw [b1] <;> conv => whnf
    focus
      have b1' := of_decide_eq_true b1
      have hu : u8 s = false := by rw [hu]; simp only [if_pos (show r.length < 2 by omega)]
      rw [hu] at h
      exact ⟨[], rfl, h⟩
    have b1' := of_decide_eq_false b1
    simp only [if_neg (show ¬ r.length < 2 by omega)] at hu
    have hv0b : 0 ≤ (c.toNat : Int) - 224 ∧ (c.toNat : Int) - 224 < 32 := by omega
    generalize (c.toNat : Int) - 224 = v0 at *
    refine ⟨⟨[0, 3, 5, 6, 7, 8], fun m vs H => ∃ (k : Nat) (v : Int), vs = [.str s, fI i, fI 3, fI 2048, fI v, fI ((k + 1 : Nat) : Int)] ∧ H = [] ∧ k ≤ 2 ∧ cv r v0 k = some v ∧ m = 2 - k, .at _ ⟨0, v0, rfl, rfl, Nat.zero_le _, rfl, rfl⟩, ?_⟩⟩
    rintro m vs H ⟨k, v, rfl, rfl, hk, hcv, rfl⟩
    conv => whnf
    refine branch_i (fun b2 => ?_) (fun b2 => ?_) <;> try rw [b2] <;> conv => whnf
    focus
      have b2' := of_decide_eq_true b2
      have hb := cv_bound hv0b hcv
      have hv : v < 131072 := by
        have hk3 : k = 0 ∨ k = 1 ∨ k = 2 := by omega
        rcases hk3 with rfl | rfl | rfl <;> simp at hb <;> omega
      have hkr : k < r.length := by omega
      have hg : r[k]? = some r[k] := List.getElem?_eq_getElem hkr
      generalize r[k] = d at *
      have hdl : d.toNat < 256 := d.toNat_lt
      rw [wrapI (n := (i : Int) + ((k + 1 : Nat) : Int)) (by omega)]
      refine ⟨d, ⟨by omega, by rw [show ((i : Int) + ((k + 1 : Nat) : Int)).toNat = i + 1 + k by omega, h3 k, hg]⟩, ?_⟩
      conv => whnf
      rw [wrapI (n := (d.toNat : Int)) (by omega)]
      have bad : ¬ (128 ≤ d.toNat ∧ d.toNat < 192) → u8 s = false := fun hbad => by
        have e : cv r v0 (k + 1) = none := by simp only [cv, hcv, hg, if_neg hbad]
        rw [hu, cv_none e (m := 2) (by omega)]
      by_cases e1 : (d.toNat : Int) < 128
      focus
        rw [bad (by omega)] at h
        rw [show decide ((d.toNat : Int) < 128) = true by simp; omega]
        conv => whnf
        exact ⟨[], rfl, h⟩
      rw [show decide ((d.toNat : Int) < 128) = false by simp; omega]
      conv => whnf
      by_cases e2 : 192 ≤ (d.toNat : Int)
      focus
        rw [bad (by omega)] at h
        rw [show decide (192 ≤ (d.toNat : Int)) = true by simp; omega]
        conv => whnf
        exact ⟨[], rfl, h⟩
      rw [show decide (192 ≤ (d.toNat : Int)) = false by simp; omega]
      conv => whnf
      refine .go [] rfl (2 - (k + 1)) (by omega) ⟨k + 1, 64 * v + d.toNat - 128, ?_, rfl, by omega, by simp only [cv, hcv, hg]; rw [if_pos (by omega)], rfl⟩
      show [V.str s, fI i, fI 3, fI 2048, V.int .i64 (IntKind.i64.wrap (IntKind.i64.wrap (IntKind.i64.wrap (64 * v) + d.toNat) - 128)), V.int .i64 (IntKind.i64.wrap (((k + 1 : Nat) : Int) + 1))] = _
      rw [wrapI (n := 64 * v) (by omega), wrapI (n := 64 * v + d.toNat) (by omega), wrapI (n := 64 * v + d.toNat - 128) (by omega), wrapI (n := ((k + 1 : Nat) : Int) + 1) (by omega)]; rfl
    have b2' := of_decide_eq_false b2
    have hkn : k = 2 := by omega
    subst hkn
    rw [hcv] at hu
    have hdr : s.drop (i + 3) = r.drop 2 := by
      rw [show i + 3 = i + 1 + 2 by omega, ← List.drop_drop, show s.drop (i + 1) = r by rw [← List.drop_drop, hd]; rfl]
    have yes : badV v 2048 = true → u8 s = false := fun hb => by rw [hu]; simp only [hb, if_true]
    have no : badV v 2048 = false → u8 s = u8 (r.drop 2) := fun hb => by rw [hu]; simp only [hb, Bool.false_eq_true, if_false]
    unfold badV at yes no
    refine branch_i (fun d1 => ?_) (fun d1 => ?_) <;> rw [d1] at yes no <;> try rw [d1] <;> conv => whnf
    focus rw [yes rfl] at h; exact ⟨[], rfl, h⟩
    refine branch_i (fun d2 => ?_) (fun d2 => ?_) <;> rw [d2] at yes no <;> try rw [d2] <;> conv => whnf
    focus rw [yes rfl] at h; exact ⟨[], rfl, h⟩
    refine branch_i (fun d3 => ?_) (fun d3 => ?_) <;> rw [d3] at yes no <;> try rw [d3] <;> conv => whnf
    focus
      refine branch_i (fun d4 => ?_) (fun d4 => ?_) <;> rw [d4] at yes no <;> try rw [d4] <;> conv => whnf
      focus rw [yes rfl] at h; exact ⟨[], rfl, h⟩
    all_goals
      refine .go [] rfl (s.length - (i + 3)) (by omega) ⟨i + 3, ?_, rfl, by rw [no rfl, hdr], by omega, rfl⟩
      show [V.str s, V.int .i64 (IntKind.i64.wrap ((i : Int) + 3))] = _
      rw [wrapI (by omega)]; rfl
  rw [show decide ((c.toNat : Int) < 240) = false by simp; omega]
  conv => whnf
  rw [show decide (240 ≤ (c.toNat : Int)) = true by simp; omega]
  conv => whnf
  by_cases a4 : (c.toNat : Int) < 248
  focus
    rw [show decide ((c.toNat : Int) < 248) = true by simp; omega]
    conv => whnf
    have hl : lead (c.toNat : Int) = some (3, 65536, (c.toNat : Int) - 240) := by unfold lead; rw [if_neg a1, if_neg a2, if_neg a3, if_pos a4]
    rw [hl] at hu
    rw [wrapI (n := (c.toNat : Int) - 240) (by omega), wrapI (n := (i : Int) + 4) (by omega)]
    refine branch_i (fun b1 => ?_) (fun b1 => ?_) <;> try rw [b1] <;> conv => whnf
    focus
      have b1' := of_decide_eq_true b1
      have hu : u8 s = false := by rw [hu]; simp only [if_pos (show r.length < 3 by omega)]
      rw [hu] at h
      exact ⟨[], rfl, h⟩
    have b1' := of_decide_eq_false b1
    simp only [if_neg (show ¬ r.length < 3 by omega)] at hu
    have hv0b : 0 ≤ (c.toNat : Int) - 240 ∧ (c.toNat : Int) - 240 < 32 := by omega
    generalize (c.toNat : Int) - 240 = v0 at *
    refine ⟨⟨[0, 3, 5, 6, 7, 8], fun m vs H => ∃ (k : Nat) (v : Int), vs = [.str s, fI i, fI 4, fI 65536, fI v, fI ((k + 1 : Nat) : Int)] ∧ H = [] ∧ k ≤ 3 ∧ cv r v0 k = some v ∧ m = 3 - k, .at _ ⟨0, v0, rfl, rfl, Nat.zero_le _, rfl, rfl⟩, ?_⟩⟩
    rintro m vs H ⟨k, v, rfl, rfl, hk, hcv, rfl⟩
    conv => whnf
    refine branch_i (fun b2 => ?_) (fun b2 => ?_) <;> try rw [b2] <;> conv => whnf
    focus
      have b2' := of_decide_eq_true b2
      have hb := cv_bound hv0b hcv
      have hv : v < 131072 := by
        have hk3 : k = 0 ∨ k = 1 ∨ k = 2 := by omega
        rcases hk3 with rfl | rfl | rfl <;> simp at hb <;> omega
      have hkr : k < r.length := by omega
      have hg : r[k]? = some r[k] := List.getElem?_eq_getElem hkr
      generalize r[k] = d at *
      have hdl : d.toNat < 256 := d.toNat_lt
      rw [wrapI (n := (i : Int) + ((k + 1 : Nat) : Int)) (by omega)]
      refine ⟨d, ⟨by omega, by rw [show ((i : Int) + ((k + 1 : Nat) : Int)).toNat = i + 1 + k by omega, h3 k, hg]⟩, ?_⟩
      conv => whnf
      rw [wrapI (n := (d.toNat : Int)) (by omega)]
      have bad : ¬ (128 ≤ d.toNat ∧ d.toNat < 192) → u8 s = false := fun hbad => by
        have e : cv r v0 (k + 1) = none := by simp only [cv, hcv, hg, if_neg hbad]
        rw [hu, cv_none e (m := 3) (by omega)]
      by_cases e1 : (d.toNat : Int) < 128
      focus
        rw [bad (by omega)] at h
        rw [show decide ((d.toNat : Int) < 128) = true by simp; omega]
        conv => whnf
        exact ⟨[], rfl, h⟩
      rw [show decide ((d.toNat : Int) < 128) = false by simp; omega]
      conv => whnf
      by_cases e2 : 192 ≤ (d.toNat : Int)
      focus
        rw [bad (by omega)] at h
        rw [show decide (192 ≤ (d.toNat : Int)) = true by simp; omega]
        conv => whnf
        exact ⟨[], rfl, h⟩
      rw [show decide (192 ≤ (d.toNat : Int)) = false by simp; omega]
      conv => whnf
      refine .go [] rfl (3 - (k + 1)) (by omega) ⟨k + 1, 64 * v + d.toNat - 128, ?_, rfl, by omega, by simp only [cv, hcv, hg]; rw [if_pos (by omega)], rfl⟩
      show [V.str s, fI i, fI 4, fI 65536, V.int .i64 (IntKind.i64.wrap (IntKind.i64.wrap (IntKind.i64.wrap (64 * v) + d.toNat) - 128)), V.int .i64 (IntKind.i64.wrap (((k + 1 : Nat) : Int) + 1))] = _
      rw [wrapI (n := 64 * v) (by omega), wrapI (n := 64 * v + d.toNat) (by omega), wrapI (n := 64 * v + d.toNat - 128) (by omega), wrapI (n := ((k + 1 : Nat) : Int) + 1) (by omega)]; rfl
    have b2' := of_decide_eq_false b2
    have hkn : k = 3 := by omega
    subst hkn
    rw [hcv] at hu
    have hdr : s.drop (i + 4) = r.drop 3 := by
      rw [show i + 4 = i + 1 + 3 by omega, ← List.drop_drop, show s.drop (i + 1) = r by rw [← List.drop_drop, hd]; rfl]
    have yes : badV v 65536 = true → u8 s = false := fun hb => by rw [hu]; simp only [hb, if_true]
    have no : badV v 65536 = false → u8 s = u8 (r.drop 3) := fun hb => by rw [hu]; simp only [hb, Bool.false_eq_true, if_false]
    unfold badV at yes no
    refine branch_i (fun d1 => ?_) (fun d1 => ?_) <;> rw [d1] at yes no <;> try rw [d1] <;> conv => whnf
    focus rw [yes rfl] at h; exact ⟨[], rfl, h⟩
    refine branch_i (fun d2 => ?_) (fun d2 => ?_) <;> rw [d2] at yes no <;> try rw [d2] <;> conv => whnf
    focus rw [yes rfl] at h; exact ⟨[], rfl, h⟩
    refine branch_i (fun d3 => ?_) (fun d3 => ?_) <;> rw [d3] at yes no <;> try rw [d3] <;> conv => whnf
    focus
      refine branch_i (fun d4 => ?_) (fun d4 => ?_) <;> rw [d4] at yes no <;> try rw [d4] <;> conv => whnf
      focus rw [yes rfl] at h; exact ⟨[], rfl, h⟩
    all_goals
      refine .go [] rfl (s.length - (i + 4)) (by omega) ⟨i + 4, ?_, rfl, by rw [no rfl, hdr], by omega, rfl⟩
      show [V.str s, V.int .i64 (IntKind.i64.wrap ((i : Int) + 4))] = _
      rw [wrapI (by omega)]; rfl
  rw [show decide ((c.toNat : Int) < 248) = false by simp; omega]
  conv => whnf
  rw [show lead c.toNat = none by unfold lead; rw [if_neg a1, if_neg a2, if_neg a3, if_neg a4]] at hu
  have hu : u8 s = false := hu
  rw [hu] at h
  exact ⟨[], rfl, h⟩

end Go.Proofs.YtgikkoeckdhgkaaDoorPg

/- Values: which may be; rows. -/
namespace Go.Proofs.YtgikkoeckdhgkaaDoorPg
open Go Go.RowKit
set_option linter.unusedSimpArgs false
set_option linter.unusedVariables false

variable {Q : V → List O → Prop}

def valA (v : Val) : V := .agg [.int .i64 v.k, .int .i64 v.n, .str v.t]
def colA (c : Col) : V := .agg [.str c.n, .int .i64 c.k, .bool c.o]

theorem RVMay_spec {v : Val} (ht : v.t.length < 1000000000000000000) (h : Q (.bool (mayV v)) []) : ACall Tryd.prog 81 0 [valA v] [] Q := by
  refine by_body Tryd.func81 0 rfl (Nat.le_of_ble_eq_true rfl) ?_
  conv => whnf
  unfold mayV at h
  refine branch_i (fun c1 => ?_) (fun c1 => ?_) <;> try rw [c1] <;> conv => whnf
  focus
    rw [if_pos (of_decide_eq_true c1)] at h
    refine branch_i (fun c2 => ?_) (fun c2 => ?_) <;> rw [c2] at h <;> try rw [c2] <;> conv => whnf
    all_goals exact ⟨[], rfl, h⟩
  rw [if_neg (of_decide_eq_false c1)] at h
  refine branch_i (fun c2 => ?_) (fun c2 => ?_) <;> try rw [c2] <;> conv => whnf
  focus
    rw [if_pos (of_decide_eq_true c2)] at h
    refine branch_i (fun c3 => ?_) (fun c3 => ?_) <;> rw [c3] at h <;> try rw [c3] <;> conv => whnf
    rotate_left
    focus exact ⟨[], rfl, h⟩
    refine branch_i (fun c4 => ?_) (fun c4 => ?_) <;> rw [c4] at h <;> try rw [c4] <;> conv => whnf
    all_goals exact ⟨[], rfl, h⟩
  rw [if_neg (of_decide_eq_false c2)] at h
  refine branch_i (fun c3 => ?_) (fun c3 => ?_) <;> try rw [c3] <;> conv => whnf
  focus
    rw [if_pos (of_decide_eq_true c3)] at h
    exact ⟨[], rfl, h⟩
  rw [if_neg (of_decide_eq_false c3)] at h
  refine branch_i (fun c4 => ?_) (fun c4 => ?_) <;> try rw [c4] <;> conv => whnf
  focus
    rw [if_pos (of_decide_eq_true c4)] at h
    refine .pure (utf8_spec ht ⟨rfl, ?_⟩)
    conv => whnf
    cases c5 : u8 v.t <;> rw [c5] at h <;> conv => whnf
    focus exact ⟨[], rfl, h⟩
    refine branch_i (fun c6 => ?_) (fun c6 => ?_) <;> rw [c6] at h <;> try rw [c6] <;> conv => whnf
    all_goals exact ⟨[], rfl, h⟩
  rw [if_neg (of_decide_eq_false c4)] at h
  refine branch_i (fun c5 => ?_) (fun c5 => ?_) <;> try rw [c5] <;> conv => whnf
  focus
    rw [if_pos (of_decide_eq_true c5)] at h
    refine branch_i (fun c6 => ?_) (fun c6 => ?_) <;> rw [c6] at h <;> try rw [c6] <;> conv => whnf
    all_goals exact ⟨[], rfl, h⟩
  rw [if_neg (of_decide_eq_false c5)] at h
  exact ⟨[], rfl, h⟩

theorem stands_spec {c : Col} {v : Val} (ht : v.t.length < 1000000000000000000) (h : Q (.bool (standsV c v)) []) : ACall Tryd.prog 67 0 [colA c, valA v] [] Q := by
  refine by_body Tryd.func67 0 rfl (Nat.le_of_ble_eq_true rfl) ?_
  conv => whnf
  unfold standsV at h
  refine .pure (RVMay_spec ht ⟨rfl, ?_⟩)
  conv => whnf
  cases c1 : mayV v <;> rw [c1] at h <;> conv => whnf
  focus exact ⟨[], rfl, h⟩
  refine branch_i (fun c2 => ?_) (fun c2 => ?_) <;> rw [c2] at h <;> try rw [c2] <;> conv => whnf
  focus exact ⟨[], rfl, h⟩
  refine branch_i (fun c3 => ?_) (fun c3 => ?_) <;> rw [c3] at h <;> try rw [c3] <;> conv => whnf
  all_goals exact ⟨[], rfl, h⟩

theorem VGood_spec {v : Val} (hk : -9223372036854775808 ≤ v.k ∧ v.k ≤ 9223372036854775807) (h : Q (valA (goodV v)) []) : ACall Tryd.prog 55 0 [valA v] [] Q := by
  refine by_body Tryd.func55 0 rfl (Nat.le_of_ble_eq_true rfl) ?_
  conv => whnf
  unfold goodV at h
  have hn : natI v.k = if v.k < 0 then IntKind.i64.wrap (0 - IntKind.i64.wrap (v.k + 1)) else v.k := rfl
  refine branch_i (fun c1 => ?_) (fun c1 => ?_) <;> try rw [c1] <;> conv => whnf
  focus
    rw [if_pos (of_decide_eq_true c1)] at hn
    rw [← hn]
    rw [show goodK5 v.k = (natI v.k).tmod 5 from rfl] at h
  rotate_left
  focus
    rw [if_neg (of_decide_eq_false c1)] at hn
    rw [show goodK5 v.k = (natI v.k).tmod 5 from rfl, hn] at h
  all_goals
    refine ⟨by decide, ?_⟩
    conv => whnf
    have h40 : text40 v.t = if 40 < v.t.length then v.t.take 40 else v.t := rfl
    refine branch_i (fun c2 => ?_) (fun c2 => ?_) <;> try rw [c2] <;> conv => whnf
    focus
      have c2' := of_decide_eq_true c2
      refine ⟨⟨by decide, by omega⟩, ?_⟩
      conv => whnf
      rw [if_pos (by omega)] at h40
    rotate_left
    focus
      have c2' := of_decide_eq_false c2
      rw [if_neg (by omega)] at h40
    all_goals
      refine branch_i (fun d1 => ?_) (fun d1 => ?_) <;> try rw [d1] <;> conv => whnf
      focus
        rw [if_pos (of_decide_eq_true d1)] at h
        refine ⟨by decide, ?_⟩
        conv => whnf
        by_cases e : v.n.tmod 2 = 0
        · rw [if_pos e] at h
          rw [show decide (v.n.tmod 2 = 0) = true by simp [e]]
          conv => whnf
          exact ⟨[], rfl, h⟩
        · rw [if_neg e] at h
          rw [show decide (v.n.tmod 2 = 0) = false by simp [e]]
          conv => whnf
          exact ⟨[], rfl, h⟩
      rw [if_neg (of_decide_eq_false d1)] at h
      refine branch_i (fun d2 => ?_) (fun d2 => ?_) <;> try rw [d2] <;> conv => whnf
      focus
        rw [if_pos (of_decide_eq_true d2)] at h
        exact ⟨[], rfl, h⟩
      rw [if_neg (of_decide_eq_false d2)] at h
      refine branch_i (fun d3 => ?_) (fun d3 => ?_) <;> try rw [d3] <;> conv => whnf
      focus
        rw [if_pos (of_decide_eq_true d3)] at h
        refine .pure (utf8_spec (by first | (rw [List.length_take]; have : (40 : Int).toNat = 40 := rfl; omega) | omega) ⟨rfl, ?_⟩)
        rw [h40] at h
        conv => whnf
        first
          | cases d5 : u8 (v.t.take (40 : Int).toNat) <;> rw [show u8 (v.t.take 40) = u8 (v.t.take (40 : Int).toNat) from rfl, d5] at h <;> conv => whnf
          | cases d5 : u8 v.t <;> rw [d5] at h <;> conv => whnf
        all_goals exact ⟨[], rfl, h⟩
      rw [if_neg (of_decide_eq_false d3)] at h
      refine branch_i (fun d4 => ?_) (fun d4 => ?_) <;> try rw [d4] <;> conv => whnf
      focus
        rw [if_pos (of_decide_eq_true d4), h40] at h
        exact ⟨[], rfl, h⟩
      rw [if_neg (of_decide_eq_false d4)] at h
      exact ⟨[], rfl, h⟩

theorem val_eq (d e : Val) : (decide (d.k = e.k) && (decide (d.n = e.n) && (decide (d.t = e.t) && true))) = decide (d = e) := by
  cases d; cases e
  simp [Val.mk.injEq]

theorem ms0_row (z id : Nat) : VSub .nils (.ms z id 0 0 false) := VSub.ms0 z id 0 false

set_option maxHeartbeats 4000000 in
theorem Row_spec {l : List Col} {keys : Int} {vs : List Val} {f : Bool} (hl : l.length < 1000000) (hk : ∀ c ∈ l, -9223372036854775808 ≤ c.k ∧ c.k ≤ 9223372036854775807) (h : Q (.sl 3 (vals (rowL l vs)) false) []) :
    ACall Tryd.prog 30 0 [sch l keys, .sl 3 (vals vs) f] [] Q := by
  refine ACall.ret (by_body Tryd.func30 0 rfl (Nat.le_of_ble_eq_true rfl) ?_)
  conv => whnf
  have hlk := cols_len l
  have hvl := vals_len vs
  refine ⟨⟨[1, 2, 5, 6], fun m ws H => ∃ i : Nat, ws = [.sl 3 (vals vs) f, .ptr 0 0, .ms 3 1 0 (vals (rowN l vs i)).length false, fI i] ∧
    H = [.cells [.sl 3 (cols l) false, fI keys], .buf (vals (rowN l vs i))] ∧ i ≤ l.length ∧ m = l.length - i,
    .frz (l.length + 1) (.adopt (.sub _ _ (.cons (VSub.refl _) (.cons (VSub.refl _) (.cons (ms0_row 3 1) (VSubs.refl _)))) (HSub.refl _) (.go [0, 1] rfl l.length (by omega) ⟨0, rfl, rfl, by omega, rfl⟩))), ?_⟩⟩
  rintro m ws H ⟨i, rfl, rfl, hi, rfl⟩
  conv => whnf
  refine branch_i (fun c => ?_) (fun c => ?_) <;> try rw [c] <;> conv => whnf
  rotate_left
  focus
    have c' := of_decide_eq_false c
    have hi' : i = l.length := by omega
    subst hi'
    refine ⟨[1], rfl, .frz 0 rfl (by repeat (first | exact trivial | refine And.intro (Nat.le_of_eq (Nat.zero_add _)) ?_)) (.done [] rfl ?_)⟩
    show Q (.sl 3 (List.take (vals (rowL l vs)).length (vals (rowL l vs))) false) []
    rw [List.take_length]; exact h
  have c' := of_decide_eq_true c
  have hlt : i < l.length := by omega
  have hget : l[i]? = some l[i] := List.getElem?_eq_getElem hlt
  generalize l[i] = d at *
  have hlen : (vals (rowN l vs i)).length = i := by rw [vals_len, rowN_len l vs i hi]
  have hsnoc : vals (rowN l vs (i + 1)) = vals (rowN l vs i) ++ [valC (rowV d (vs.getD i val0))] := by
    simp only [rowN, hget]; simp [vals]
  have hdk := hk d (List.mem_of_getElem? hget)
  refine branch_i (fun c2 => ?_) (fun c2 => ?_) <;> try rw [c2] <;> conv => whnf
  focus
    have c2' := of_decide_eq_true c2
    have hv : vs[i]? = some (vs.getD i val0) := by
      have : i < vs.length := by omega
      simp [List.getD, List.getElem?_eq_getElem this]
    generalize vs.getD i val0 = v at *
    refine ⟨_, ⟨by omega, vals_get hv⟩, ?_⟩
    conv => whnf
    refine ⟨_, ⟨by omega, cols_get hget⟩, ?_⟩
    conv => whnf
    cases e1 : d.o
    · conv => whnf
      have hX : rowV d v = goodV ⟨d.k, v.n, v.t⟩ := by unfold rowV; rw [if_neg (by simp [e1])]
      rw [hX] at hsnoc
      refine .pure (VGood_spec (v := ⟨d.k, (v).n, (v).t⟩) hdk ⟨rfl, ?_⟩)
      conv => whnf
      refine ⟨Nat.le_refl _, ?_⟩
      conv => whnf
      refine ⟨rfl, ?_⟩
      conv => whnf
      refine ⟨Nat.le_trans (Nat.mul_le_mul_right _ (by rw [List.length_append, List.length_take, List.drop_zero, hlen]; exact Nat.add_le_add (Nat.le_refl i) (Nat.min_le_left _ _))) (show (i + 1) * 32 ≤ 70368744177664 by omega), ?_⟩
      conv => whnf
      refine .go [0, 5] rfl (l.length - (i + 1)) (by omega) ⟨i + 1, ?_, ?_, by omega, rfl⟩
      · show [V.sl 3 (vals vs) f, V.ptr 0 0, V.ms 3 1 0 (vals (rowN l vs i) ++ [valC (goodV ⟨d.k, (v).n, (v).t⟩)]).length false, V.int .i64 (IntKind.i64.wrap ((i : Int) + 1))] = _
        rw [hsnoc, wrapI (by omega)]; rfl
      · show [O.cells [.sl 3 (cols l) false, fI keys], O.buf (vals (rowN l vs i) ++ [valC (goodV ⟨d.k, (v).n, (v).t⟩)])] = _
        rw [hsnoc]
    · conv => whnf
      refine ⟨by decide, ?_⟩
      conv => whnf
      by_cases e2 : v.k.tmod 3 = 0
      · rw [show decide (v.k.tmod 3 = 0) = true by simp [e2]]
        conv => whnf
        have hX : rowV d v = val0 := by unfold rowV; rw [if_pos ⟨e1, e2⟩]
        rw [hX] at hsnoc
        refine ⟨Nat.le_refl _, ?_⟩
        conv => whnf
        refine ⟨rfl, ?_⟩
        conv => whnf
        refine ⟨Nat.le_trans (Nat.mul_le_mul_right _ (by rw [List.length_append, List.length_take, List.drop_zero, hlen]; exact Nat.add_le_add (Nat.le_refl i) (Nat.min_le_left _ _))) (show (i + 1) * 32 ≤ 70368744177664 by omega), ?_⟩
        conv => whnf
        refine .go [0, 5] rfl (l.length - (i + 1)) (by omega) ⟨i + 1, ?_, ?_, by omega, rfl⟩
        · show [V.sl 3 (vals vs) f, V.ptr 0 0, V.ms 3 1 0 (vals (rowN l vs i) ++ [valC val0]).length false, V.int .i64 (IntKind.i64.wrap ((i : Int) + 1))] = _
          rw [hsnoc, wrapI (by omega)]; rfl
        · show [O.cells [.sl 3 (cols l) false, fI keys], O.buf (vals (rowN l vs i) ++ [valC val0])] = _
          rw [hsnoc]
      · rw [show decide (v.k.tmod 3 = 0) = false by simp [e2]]
        conv => whnf
        have hX : rowV d v = goodV ⟨d.k, v.n, v.t⟩ := by unfold rowV; rw [if_neg (by simp [e2])]
        rw [hX] at hsnoc
        refine .pure (VGood_spec (v := ⟨d.k, (v).n, (v).t⟩) hdk ⟨rfl, ?_⟩)
        conv => whnf
        refine ⟨Nat.le_refl _, ?_⟩
        conv => whnf
        refine ⟨rfl, ?_⟩
        conv => whnf
        refine ⟨Nat.le_trans (Nat.mul_le_mul_right _ (by rw [List.length_append, List.length_take, List.drop_zero, hlen]; exact Nat.add_le_add (Nat.le_refl i) (Nat.min_le_left _ _))) (show (i + 1) * 32 ≤ 70368744177664 by omega), ?_⟩
        conv => whnf
        refine .go [0, 5] rfl (l.length - (i + 1)) (by omega) ⟨i + 1, ?_, ?_, by omega, rfl⟩
        · show [V.sl 3 (vals vs) f, V.ptr 0 0, V.ms 3 1 0 (vals (rowN l vs i) ++ [valC (goodV ⟨d.k, (v).n, (v).t⟩)]).length false, V.int .i64 (IntKind.i64.wrap ((i : Int) + 1))] = _
          rw [hsnoc, wrapI (by omega)]; rfl
        · show [O.cells [.sl 3 (cols l) false, fI keys], O.buf (vals (rowN l vs i) ++ [valC (goodV ⟨d.k, (v).n, (v).t⟩)])] = _
          rw [hsnoc]
  focus
    have c2' := of_decide_eq_false c2
    have hv : vs.getD i val0 = val0 := by simp [List.getD, List.getElem?_eq_none (show vs.length ≤ i by omega)]
    rw [hv] at hsnoc
    refine ⟨_, ⟨by omega, cols_get hget⟩, ?_⟩
    conv => whnf
    cases e1 : d.o
    · conv => whnf
      have hX : rowV d val0 = goodV ⟨d.k, val0.n, val0.t⟩ := by unfold rowV; rw [if_neg (by simp [e1])]
      rw [hX] at hsnoc
      refine .pure (VGood_spec (v := ⟨d.k, (val0).n, (val0).t⟩) hdk ⟨rfl, ?_⟩)
      conv => whnf
      refine ⟨Nat.le_refl _, ?_⟩
      conv => whnf
      refine ⟨rfl, ?_⟩
      conv => whnf
      refine ⟨Nat.le_trans (Nat.mul_le_mul_right _ (by rw [List.length_append, List.length_take, List.drop_zero, hlen]; exact Nat.add_le_add (Nat.le_refl i) (Nat.min_le_left _ _))) (show (i + 1) * 32 ≤ 70368744177664 by omega), ?_⟩
      conv => whnf
      refine .go [0, 5] rfl (l.length - (i + 1)) (by omega) ⟨i + 1, ?_, ?_, by omega, rfl⟩
      · show [V.sl 3 (vals vs) f, V.ptr 0 0, V.ms 3 1 0 (vals (rowN l vs i) ++ [valC (goodV ⟨d.k, (val0).n, (val0).t⟩)]).length false, V.int .i64 (IntKind.i64.wrap ((i : Int) + 1))] = _
        rw [hsnoc, wrapI (by omega)]; rfl
      · show [O.cells [.sl 3 (cols l) false, fI keys], O.buf (vals (rowN l vs i) ++ [valC (goodV ⟨d.k, (val0).n, (val0).t⟩)])] = _
        rw [hsnoc]
    · conv => whnf
      refine ⟨by decide, ?_⟩
      conv => whnf
      have hX : rowV d val0 = val0 := by unfold rowV; rw [if_pos ⟨e1, rfl⟩]
      rw [hX] at hsnoc
      refine ⟨Nat.le_refl _, ?_⟩
      conv => whnf
      refine ⟨rfl, ?_⟩
      conv => whnf
      refine ⟨Nat.le_trans (Nat.mul_le_mul_right _ (by rw [List.length_append, List.length_take, List.drop_zero, hlen]; exact Nat.add_le_add (Nat.le_refl i) (Nat.min_le_left _ _))) (show (i + 1) * 32 ≤ 70368744177664 by omega), ?_⟩
      conv => whnf
      refine .go [0, 5] rfl (l.length - (i + 1)) (by omega) ⟨i + 1, ?_, ?_, by omega, rfl⟩
      · show [V.sl 3 (vals vs) f, V.ptr 0 0, V.ms 3 1 0 (vals (rowN l vs i) ++ [valC val0]).length false, V.int .i64 (IntKind.i64.wrap ((i : Int) + 1))] = _
        rw [hsnoc, wrapI (by omega)]; rfl
      · show [O.cells [.sl 3 (cols l) false, fI keys], O.buf (vals (rowN l vs i) ++ [valC val0])] = _
        rw [hsnoc]

end Go.Proofs.YtgikkoeckdhgkaaDoorPg

/- Own texts, laid together: Pg06DT, Pg06DBy, Pg06DCmp. -/
import Derived.Test.YtokifgdmddnpoaaDoorProg
import Derived.Test.YtokifgdmddnpoaaDoorPgM12
import Derived.KernelRfl
import Derived.Test.YtokifgdmddnpoaaDoorPgM17
import Derived.Test.YtokifgdmddnpoaaDoorPgM13
/- The base of a seat: its types, as a table that computes, and its functions. -/
namespace Go.Proofs.YtokifgdmddnpoaaDoorPg
open Go Go.RowKit

def tbl : List TI := [
  TI.bad,
  { kind := .fn, size := 1, bytes := 8, zero := [.nilf], good := true },
  { kind := .int .i64, size := 1, bytes := 8, zero := [.int .i64 0], good := true },
  { kind := .int .i64, size := 1, bytes := 8, zero := [.int .i64 0], good := true },
  { kind := .bool, size := 1, bytes := 1, zero := [.bool false], good := true },
  { kind := .int .u8, size := 1, bytes := 1, zero := [.int .u8 0], good := true },
  { kind := .int .u8, size := 1, bytes := 1, zero := [.int .u8 0], good := true },
  { kind := .struct [(0, 2), (1, 3), (2, 4), (3, 6)], size := 4, bytes := 24, zero := [.int .i64 0, .int .i64 0, .bool false, .int .u8 0], good := true, eqok := true },
  { kind := .struct [(0, 2), (1, 3), (2, 4), (3, 6)], size := 4, bytes := 24, zero := [.int .i64 0, .int .i64 0, .bool false, .int .u8 0], good := true, eqok := true },
  { kind := .str, size := 1, bytes := 16, zero := [.str []], good := true },
  { kind := .str, size := 1, bytes := 16, zero := [.str []], good := true },
  { kind := .str, size := 1, bytes := 16, zero := [.str []], good := true },
  { kind := .int .u64, size := 1, bytes := 8, zero := [.int .u64 0], good := true },
  { kind := .struct [(0, 9), (1, 12)], size := 2, bytes := 24, zero := [.str [], .int .u64 0], good := true },
  { kind := .struct [(0, 9), (1, 12)], size := 2, bytes := 24, zero := [.str [], .int .u64 0], good := true },
  { kind := .ptr 136, size := 1, bytes := 8, zero := [.nilp], good := true },
  { kind := .ptr 139, size := 1, bytes := 8, zero := [.nilp], good := true },
  { kind := .ptr 148, size := 1, bytes := 8, zero := [.nilp], good := true },
  { kind := .struct [(0, 17)], size := 1, bytes := 8, zero := [.nilp], good := true },
  { kind := .struct [(0, 17)], size := 1, bytes := 8, zero := [.nilp], good := true },
  { kind := .iface, size := 1, bytes := 16, zero := [.nili], good := true },
  { kind := .int .i32, size := 1, bytes := 4, zero := [.int .i32 0], good := true },
  { kind := .sl 30, size := 1, bytes := 24, zero := [.nils], good := true },
  { kind := .fn, size := 1, bytes := 8, zero := [.nilf], good := true },
  { kind := .fn, size := 1, bytes := 8, zero := [.nilf], good := true },
  { kind := .sl 9, size := 1, bytes := 24, zero := [.nils], good := true },
  { kind := .sl 40, size := 1, bytes := 24, zero := [.nils], good := true },
  { kind := .struct [(0, 26), (1, 3)], size := 2, bytes := 32, zero := [.nils, .int .i64 0], good := true },
  { kind := .struct [(0, 26), (1, 3)], size := 2, bytes := 32, zero := [.nils, .int .i64 0], good := true },
  { kind := .struct [(0, 9), (1, 28)], size := 3, bytes := 48, zero := [.str [], .nils, .int .i64 0], good := true },
  { kind := .struct [(0, 9), (1, 28)], size := 3, bytes := 48, zero := [.str [], .nils, .int .i64 0], good := true },
  TI.bad,
  { kind := .fn, size := 1, bytes := 8, zero := [.nilf], good := true },
  { kind := .fn, size := 1, bytes := 8, zero := [.nilf], good := true },
  { kind := .fn, size := 1, bytes := 8, zero := [.nilf], good := true },
  { kind := .fn, size := 1, bytes := 8, zero := [.nilf], good := true },
  { kind := .fn, size := 1, bytes := 8, zero := [.nilf], good := true },
  { kind := .sl 75, size := 1, bytes := 24, zero := [.nils], good := true },
  { kind := .sl 75, size := 1, bytes := 24, zero := [.nils], good := true },
  { kind := .struct [(0, 9), (1, 3), (2, 4)], size := 3, bytes := 32, zero := [.str [], .int .i64 0, .bool false], good := true, eqok := true },
  { kind := .struct [(0, 9), (1, 3), (2, 4)], size := 3, bytes := 32, zero := [.str [], .int .i64 0, .bool false], good := true, eqok := true },
  { kind := .struct [(0, 3), (1, 9), (2, 28), (4, 40)], size := 7, bytes := 88, zero := [.int .i64 0, .str [], .nils, .int .i64 0, .str [], .int .i64 0, .bool false], good := true },
  { kind := .struct [(0, 3), (1, 9), (2, 28), (4, 40)], size := 7, bytes := 88, zero := [.int .i64 0, .str [], .nils, .int .i64 0, .str [], .int .i64 0, .bool false], good := true },
  { kind := .struct [(0, 3), (1, 3), (2, 9), (3, 38), (4, 38), (5, 42)], size := 12, bytes := 168, zero := [.int .i64 0, .int .i64 0, .str [], .nils, .nils, .int .i64 0, .str [], .nils, .int .i64 0, .str [], .int .i64 0, .bool false], good := true },
  { kind := .struct [(0, 3), (1, 3), (2, 9), (3, 38), (4, 38), (5, 42)], size := 12, bytes := 168, zero := [.int .i64 0, .int .i64 0, .str [], .nils, .nils, .int .i64 0, .str [], .nils, .int .i64 0, .str [], .int .i64 0, .bool false], good := true },
  { kind := .fn, size := 1, bytes := 8, zero := [.nilf], good := true },
  { kind := .fn, size := 1, bytes := 8, zero := [.nilf], good := true },
  { kind := .int .i64, size := 1, bytes := 8, zero := [.int .i64 0], good := true },
  { kind := .fn, size := 1, bytes := 8, zero := [.nilf], good := true },
  { kind := .fn, size := 1, bytes := 8, zero := [.nilf], good := true },
  { kind := .fn, size := 1, bytes := 8, zero := [.nilf], good := true },
  { kind := .fn, size := 1, bytes := 8, zero := [.nilf], good := true },
  { kind := .sl 42, size := 1, bytes := 24, zero := [.nils], good := true },
  TI.bad,
  { kind := .fn, size := 1, bytes := 8, zero := [.nilf], good := true },
  { kind := .fn, size := 1, bytes := 8, zero := [.nilf], good := true },
  { kind := .fn, size := 1, bytes := 8, zero := [.nilf], good := true },
  { kind := .fn, size := 1, bytes := 8, zero := [.nilf], good := true },
  { kind := .sl 5, size := 1, bytes := 24, zero := [.nils], good := true },
  { kind := .fn, size := 1, bytes := 8, zero := [.nilf], good := true },
  { kind := .fn, size := 1, bytes := 8, zero := [.nilf], good := true },
  TI.bad,
  { kind := .fn, size := 1, bytes := 8, zero := [.nilf], good := true },
  { kind := .fn, size := 1, bytes := 8, zero := [.nilf], good := true },
  { kind := .fn, size := 1, bytes := 8, zero := [.nilf], good := true },
  TI.bad,
  { kind := .fn, size := 1, bytes := 8, zero := [.nilf], good := true },
  { kind := .fn, size := 1, bytes := 8, zero := [.nilf], good := true },
  { kind := .fn, size := 1, bytes := 8, zero := [.nilf], good := true },
  { kind := .fn, size := 1, bytes := 8, zero := [.nilf], good := true },
  { kind := .fn, size := 1, bytes := 8, zero := [.nilf], good := true },
  TI.bad,
  { kind := .fn, size := 1, bytes := 8, zero := [.nilf], good := true },
  { kind := .fn, size := 1, bytes := 8, zero := [.nilf], good := true },
  { kind := .struct [(0, 3), (1, 3), (2, 9)], size := 3, bytes := 32, zero := [.int .i64 0, .int .i64 0, .str []], good := true, eqok := true },
  { kind := .struct [(0, 3), (1, 3), (2, 9)], size := 3, bytes := 32, zero := [.int .i64 0, .int .i64 0, .str []], good := true, eqok := true },
  { kind := .fn, size := 1, bytes := 8, zero := [.nilf], good := true },
  { kind := .fn, size := 1, bytes := 8, zero := [.nilf], good := true },
  { kind := .fn, size := 1, bytes := 8, zero := [.nilf], good := true },
  { kind := .fn, size := 1, bytes := 8, zero := [.nilf], good := true },
  TI.bad,
  { kind := .fn, size := 1, bytes := 8, zero := [.nilf], good := true },
  { kind := .fn, size := 1, bytes := 8, zero := [.nilf], good := true },
  { kind := .fn, size := 1, bytes := 8, zero := [.nilf], good := true },
  { kind := .fn, size := 1, bytes := 8, zero := [.nilf], good := true },
  { kind := .fn, size := 1, bytes := 8, zero := [.nilf], good := true },
  { kind := .fn, size := 1, bytes := 8, zero := [.nilf], good := true },
  { kind := .fn, size := 1, bytes := 8, zero := [.nilf], good := true },
  { kind := .fn, size := 1, bytes := 8, zero := [.nilf], good := true },
  { kind := .fn, size := 1, bytes := 8, zero := [.nilf], good := true },
  { kind := .fn, size := 1, bytes := 8, zero := [.nilf], good := true },
  { kind := .fn, size := 1, bytes := 8, zero := [.nilf], good := true },
  { kind := .fn, size := 1, bytes := 8, zero := [.nilf], good := true },
  { kind := .fn, size := 1, bytes := 8, zero := [.nilf], good := true },
  { kind := .fn, size := 1, bytes := 8, zero := [.nilf], good := true },
  { kind := .sl 3, size := 1, bytes := 24, zero := [.nils], good := true },
  { kind := .fn, size := 1, bytes := 8, zero := [.nilf], good := true },
  { kind := .fn, size := 1, bytes := 8, zero := [.nilf], good := true },
  { kind := .fn, size := 1, bytes := 8, zero := [.nilf], good := true },
  { kind := .fn, size := 1, bytes := 8, zero := [.nilf], good := true },
  { kind := .map 3 99, size := 1, bytes := 8, zero := [.nilm], good := true },
  { kind := .fn, size := 1, bytes := 8, zero := [.nilf], good := true },
  { kind := .struct [(0, 26), (1, 3)], size := 2, bytes := 32, zero := [.nils, .int .i64 0], good := true },
  { kind := .int .u64, size := 1, bytes := 8, zero := [.int .u64 0], good := true },
  { kind := .fn, size := 1, bytes := 8, zero := [.nilf], good := true },
  { kind := .fn, size := 1, bytes := 8, zero := [.nilf], good := true },
  { kind := .fn, size := 1, bytes := 8, zero := [.nilf], good := true },
  { kind := .fn, size := 1, bytes := 8, zero := [.nilf], good := true },
  { kind := .fn, size := 1, bytes := 8, zero := [.nilf], good := true },
  { kind := .fn, size := 1, bytes := 8, zero := [.nilf], good := true },
  { kind := .int .u64, size := 1, bytes := 8, zero := [.int .u64 0], good := true },
  { kind := .fn, size := 1, bytes := 8, zero := [.nilf], good := true },
  { kind := .fn, size := 1, bytes := 8, zero := [.nilf], good := true },
  { kind := .fn, size := 1, bytes := 8, zero := [.nilf], good := true },
  { kind := .fn, size := 1, bytes := 8, zero := [.nilf], good := true },
  { kind := .fn, size := 1, bytes := 8, zero := [.nilf], good := true },
  { kind := .fn, size := 1, bytes := 8, zero := [.nilf], good := true },
  { kind := .fn, size := 1, bytes := 8, zero := [.nilf], good := true },
  { kind := .fn, size := 1, bytes := 8, zero := [.nilf], good := true },
  { kind := .fn, size := 1, bytes := 8, zero := [.nilf], good := true },
  { kind := .fn, size := 1, bytes := 8, zero := [.nilf], good := true },
  { kind := .fn, size := 1, bytes := 8, zero := [.nilf], good := true },
  { kind := .fn, size := 1, bytes := 8, zero := [.nilf], good := true },
  { kind := .fn, size := 1, bytes := 8, zero := [.nilf], good := true },
  { kind := .sl 58, size := 1, bytes := 24, zero := [.nils], good := true },
  { kind := .fn, size := 1, bytes := 8, zero := [.nilf], good := true },
  { kind := .int .u32, size := 1, bytes := 4, zero := [.int .u32 0], good := true },
  TI.bad,
  { kind := .fn, size := 1, bytes := 8, zero := [.nilf], good := true },
  { kind := .fn, size := 1, bytes := 8, zero := [.nilf], good := true },
  TI.bad,
  { kind := .struct [(0, 5), (1, 5)], size := 2, bytes := 2, zero := [.int .u8 0, .int .u8 0], good := true, eqok := true },
  { kind := .struct [(0, 5), (1, 5)], size := 2, bytes := 2, zero := [.int .u8 0, .int .u8 0], good := true, eqok := true },
  TI.bad,
  { kind := .fn, size := 1, bytes := 8, zero := [.nilf], good := true },
  { kind := .struct [(0, 17), (1, 17), (2, 17), (3, 9)], size := 4, bytes := 40, zero := [.nilp, .nilp, .nilp, .str []], good := true },
  { kind := .struct [(0, 17), (1, 17), (2, 17), (3, 9)], size := 4, bytes := 40, zero := [.nilp, .nilp, .nilp, .str []], good := true },
  { kind := .arr 0 16, size := 0, bytes := 0, zero := [], good := true },
  { kind := .struct [(0, 137)], size := 0, bytes := 0, zero := [], good := true },
  { kind := .struct [(0, 137)], size := 0, bytes := 0, zero := [], good := true },
  { kind := .fn, size := 1, bytes := 8, zero := [.nilf], good := true },
  { kind := .int .u8, size := 1, bytes := 1, zero := [.int .u8 0], good := true },
  { kind := .int .u8, size := 1, bytes := 1, zero := [.int .u8 0], good := true },
  { kind := .fn, size := 1, bytes := 8, zero := [.nilf], good := true },
  { kind := .ptr 5, size := 1, bytes := 8, zero := [.nilp], good := true },
  { kind := .int .i32, size := 1, bytes := 4, zero := [.int .i32 0], good := true },
  { kind := .int .i32, size := 1, bytes := 4, zero := [.int .i32 0], good := true },
  { kind := .struct [(0, 12), (1, 12), (2, 126), (3, 141), (4, 5), (5, 5), (6, 142), (7, 143), (8, 144), (9, 145), (10, 146)], size := 11, bytes := 48, zero := [.int .u64 0, .int .u64 0, .int .u32 0, .int .u8 0, .int .u8 0, .int .u8 0, .int .u8 0, .nilf, .nilp, .int .i32 0, .int .i32 0], good := true },
  { kind := .struct [(0, 12), (1, 12), (2, 126), (3, 141), (4, 5), (5, 5), (6, 142), (7, 143), (8, 144), (9, 145), (10, 146)], size := 11, bytes := 48, zero := [.int .u64 0, .int .u64 0, .int .u32 0, .int .u8 0, .int .u8 0, .int .u8 0, .int .u8 0, .nilf, .nilp, .int .i32 0, .int .i32 0], good := true },
  { kind := .other, size := 1, bytes := 8, zero := [.nilp], good := true }]
def tt (t : Nat) : TI := tbl.getD t TI.bad

set_option maxRecDepth 100000 in
theorem tt_ok : TIok Tryd.prog tt := tiok_of (l := tbl) ⟨
  .inr rfl,
  .inl (by kernel_rfl),
  .inl (by kernel_rfl),
  .inl (by kernel_rfl),
  .inl (by kernel_rfl),
  .inl (by kernel_rfl),
  .inl (by kernel_rfl),
  .inl (by kernel_rfl),
  .inl (by kernel_rfl),
  .inl (by kernel_rfl),
  .inl (by kernel_rfl),
  .inl (by kernel_rfl),
  .inl (by kernel_rfl),
  .inl (by kernel_rfl),
  .inl (by kernel_rfl),
  .inl (by kernel_rfl),
  .inl (by kernel_rfl),
  .inl (by kernel_rfl),
  .inl (by kernel_rfl),
  .inl (by kernel_rfl),
  .inl (by kernel_rfl),
  .inl (by kernel_rfl),
  .inl (by kernel_rfl),
  .inl (by kernel_rfl),
  .inl (by kernel_rfl),
  .inl (by kernel_rfl),
  .inl (by kernel_rfl),
  .inl (by kernel_rfl),
  .inl (by kernel_rfl),
  .inl (by kernel_rfl),
  .inl (by kernel_rfl),
  .inr rfl,
  .inl (by kernel_rfl),
  .inl (by kernel_rfl),
  .inl (by kernel_rfl),
  .inl (by kernel_rfl),
  .inl (by kernel_rfl),
  .inl (by kernel_rfl),
  .inl (by kernel_rfl),
  .inl (by kernel_rfl),
  .inl (by kernel_rfl),
  .inl (by kernel_rfl),
  .inl (by kernel_rfl),
  .inl (by kernel_rfl),
  .inl (by kernel_rfl),
  .inl (by kernel_rfl),
  .inl (by kernel_rfl),
  .inl (by kernel_rfl),
  .inl (by kernel_rfl),
  .inl (by kernel_rfl),
  .inl (by kernel_rfl),
  .inl (by kernel_rfl),
  .inl (by kernel_rfl),
  .inr rfl,
  .inl (by kernel_rfl),
  .inl (by kernel_rfl),
  .inl (by kernel_rfl),
  .inl (by kernel_rfl),
  .inl (by kernel_rfl),
  .inl (by kernel_rfl),
  .inl (by kernel_rfl),
  .inr rfl,
  .inl (by kernel_rfl),
  .inl (by kernel_rfl),
  .inl (by kernel_rfl),
  .inr rfl,
  .inl (by kernel_rfl),
  .inl (by kernel_rfl),
  .inl (by kernel_rfl),
  .inl (by kernel_rfl),
  .inl (by kernel_rfl),
  .inr rfl,
  .inl (by kernel_rfl),
  .inl (by kernel_rfl),
  .inl (by kernel_rfl),
  .inl (by kernel_rfl),
  .inl (by kernel_rfl),
  .inl (by kernel_rfl),
  .inl (by kernel_rfl),
  .inl (by kernel_rfl),
  .inr rfl,
  .inl (by kernel_rfl),
  .inl (by kernel_rfl),
  .inl (by kernel_rfl),
  .inl (by kernel_rfl),
  .inl (by kernel_rfl),
  .inl (by kernel_rfl),
  .inl (by kernel_rfl),
  .inl (by kernel_rfl),
  .inl (by kernel_rfl),
  .inl (by kernel_rfl),
  .inl (by kernel_rfl),
  .inl (by kernel_rfl),
  .inl (by kernel_rfl),
  .inl (by kernel_rfl),
  .inl (by kernel_rfl),
  .inl (by kernel_rfl),
  .inl (by kernel_rfl),
  .inl (by kernel_rfl),
  .inl (by kernel_rfl),
  .inl (by kernel_rfl),
  .inl (by kernel_rfl),
  .inl (by kernel_rfl),
  .inl (by kernel_rfl),
  .inl (by kernel_rfl),
  .inl (by kernel_rfl),
  .inl (by kernel_rfl),
  .inl (by kernel_rfl),
  .inl (by kernel_rfl),
  .inl (by kernel_rfl),
  .inl (by kernel_rfl),
  .inl (by kernel_rfl),
  .inl (by kernel_rfl),
  .inl (by kernel_rfl),
  .inl (by kernel_rfl),
  .inl (by kernel_rfl),
  .inl (by kernel_rfl),
  .inl (by kernel_rfl),
  .inl (by kernel_rfl),
  .inl (by kernel_rfl),
  .inl (by kernel_rfl),
  .inl (by kernel_rfl),
  .inl (by kernel_rfl),
  .inl (by kernel_rfl),
  .inl (by kernel_rfl),
  .inl (by kernel_rfl),
  .inl (by kernel_rfl),
  .inr rfl,
  .inl (by kernel_rfl),
  .inl (by kernel_rfl),
  .inr rfl,
  .inl (by kernel_rfl),
  .inl (by kernel_rfl),
  .inr rfl,
  .inl (by kernel_rfl),
  .inl (by kernel_rfl),
  .inl (by kernel_rfl),
  .inl (by kernel_rfl),
  .inl (by kernel_rfl),
  .inl (by kernel_rfl),
  .inl (by kernel_rfl),
  .inl (by kernel_rfl),
  .inl (by kernel_rfl),
  .inl (by kernel_rfl),
  .inl (by kernel_rfl),
  .inl (by kernel_rfl),
  .inl (by kernel_rfl),
  .inl (by kernel_rfl),
  .inl (by kernel_rfl),
  .inl (by kernel_rfl),
  trivial⟩

def fns : List Nat := [2, 3, 4, 5, 6, 7, 8, 9, 10, 11, 12, 13, 14, 15, 16, 17, 18, 19, 20, 21, 22, 23, 24, 25, 26, 27, 28, 29, 30, 31, 32, 33, 34, 35, 36, 37, 38, 39, 40, 41, 42, 43, 44, 45, 46, 47, 48, 49, 50, 51, 52, 53, 54, 55, 56, 57, 58, 59, 60, 61, 62, 63, 64, 65, 66, 67, 68, 69, 70, 71, 72, 73, 74, 75, 76, 77, 78, 79, 80, 81, 82, 83, 84, 85, 86, 87, 88, 89, 90, 91, 92, 94, 95, 96, 97, 98, 99, 100, 102, 103, 104, 105, 106, 107, 108, 109, 110, 111, 112, 113, 114, 116, 117, 139]
theorem fns_ok : Entered Tryd.prog fns := ⟨Tryd.call2, Tryd.call3, Tryd.call4, Tryd.call5, Tryd.call6, Tryd.call7, Tryd.call8, Tryd.call9, Tryd.call10, Tryd.call11, Tryd.call12, Tryd.call13, Tryd.call14, Tryd.call15, Tryd.call16, Tryd.call17, Tryd.call18, Tryd.call19, Tryd.call20, Tryd.call21, Tryd.call22, Tryd.call23, Tryd.call24, Tryd.call25, Tryd.call26, Tryd.call27, Tryd.call28, Tryd.call29, Tryd.call30, Tryd.call31, Tryd.call32, Tryd.call33, Tryd.call34, Tryd.call35, Tryd.call36, Tryd.call37, Tryd.call38, Tryd.call39, Tryd.call40, Tryd.call41, Tryd.call42, Tryd.call43, Tryd.call44, Tryd.call45, Tryd.call46, Tryd.call47, Tryd.call48, Tryd.call49, Tryd.call50, Tryd.call51, Tryd.call52, Tryd.call53, Tryd.call54, Tryd.call55, Tryd.call56, Tryd.call57, Tryd.call58, Tryd.call59, Tryd.call60, Tryd.call61, Tryd.call62, Tryd.call63, Tryd.call64, Tryd.call65, Tryd.call66, Tryd.call67, Tryd.call68, Tryd.call69, Tryd.call70, Tryd.call71, Tryd.call72, Tryd.call73, Tryd.call74, Tryd.call75, Tryd.call76, Tryd.call77, Tryd.call78, Tryd.call79, Tryd.call80, Tryd.call81, Tryd.call82, Tryd.call83, Tryd.call84, Tryd.call85, Tryd.call86, Tryd.call87, Tryd.call88, Tryd.call89, Tryd.call90, Tryd.call91, Tryd.call92, Tryd.call94, Tryd.call95, Tryd.call96, Tryd.call97, Tryd.call98, Tryd.call99, Tryd.call100, Tryd.call102, Tryd.call103, Tryd.call104, Tryd.call105, Tryd.call106, Tryd.call107, Tryd.call108, Tryd.call109, Tryd.call110, Tryd.call111, Tryd.call112, Tryd.call113, Tryd.call114, Tryd.call116, Tryd.call117, Tryd.call139, trivial⟩
theorem mixed_ok : Tryd.prog.follows .mixedOrders = true := by kernel_rfl
noncomputable abbrev cx (n k : Nat) : Ctx := ⟨Tryd.prog, tt, fns, n, k, false, none⟩
theorem cx_ok (n k : Nat) : CtxOk (cx n k) := ⟨tt_ok, entered_get fns fns_ok, mixed_ok⟩

end Go.Proofs.YtokifgdmddnpoaaDoorPg

/- A function's body, walked. -/
namespace Go.Proofs.YtokifgdmddnpoaaDoorPg
open Go Go.RowKit
set_option linter.unusedSimpArgs false

theorem by_body {f : FuncId} {fn : Func} (hf : Tryd.prog.funcs[f]? = some fn) (k : Nat) {args : List V} {H : List O} {Q : V → List O → Prop} (hb : fn.body = some (fn.body.getD .skip)) (hl : args.length ≤ fn.ntmps)
    (h : abody (cx fn.ntmps k) fn (fn.body.getD .skip) args H Q) : ACall Tryd.prog f k args H Q :=
  acall_intro (cx_ok fn.ntmps k) hf hb rfl rfl hl h

abbrev fI (n : Int) : V := .int .i64 n

end Go.Proofs.YtokifgdmddnpoaaDoorPg

/- Texts compared; places in a sorted row. -/
namespace Go.Proofs.YtokifgdmddnpoaaDoorPg
open Go Go.RowKit
set_option linter.unusedSimpArgs false
set_option linter.unusedVariables false

variable {Q : V → List O → Prop}

theorem isNaN_spec {a : List UInt8} (h : Q (.bool false) []) : ACall Tryd.prog 78 0 [.str a] [] Q := by
  refine by_body Tryd.func78 0 rfl (Nat.le_of_ble_eq_true rfl) ?_
  conv => whnf
  refine ⟨[], rfl, ?_⟩
  show Q (.bool (!decide (a = a))) []
  rw [decide_eq_true rfl]; exact h

def cmpS (a b : List UInt8) : Int := if Op.bytesLess a b then -1 else if Op.bytesLess b a then 1 else 0

theorem cmpS_lt {a b : List UInt8} : decide (cmpS a b < 0) = Op.bytesLess a b := by
  unfold cmpS
  cases h : Op.bytesLess a b
  · simp only [Bool.false_eq_true, if_false]
    split <;> decide
  · simp

theorem cmpS_eq {a b : List UInt8} : decide (cmpS a b = 0) = decide (a = b) := by
  unfold cmpS
  cases h : Op.bytesLess a b
  · cases g : Op.bytesLess b a
    · simp [less_total h g]
    · have := less_ne g
      have e : ¬ a = b := fun e => this e.symm
      simp [e]
  · have := less_ne h
    simp [this]

theorem CompareS_spec {a b : List UInt8} (h : Q (.int .i64 (cmpS a b)) []) : ACall Tryd.prog 55 0 [.str a, .str b] [] Q := by
  refine by_body Tryd.func55 0 rfl (Nat.le_of_ble_eq_true rfl) ?_
  conv => whnf
  unfold cmpS at h
  refine .pure (isNaN_spec ⟨rfl, ?_⟩)
  conv => whnf
  refine .pure (isNaN_spec ⟨rfl, ?_⟩)
  conv => whnf
  cases h1 : Op.bytesLess a b <;> rw [h1] at h <;> conv => whnf
  rotate_left
  focus exact ⟨[], rfl, h⟩
  rw [gt_eq]
  cases h2 : Op.bytesLess b a <;> rw [h2] at h <;> conv => whnf
  · exact ⟨[], rfl, h⟩
  · exact ⟨[], rfl, h⟩

def BelowT (l : List Wk) (t : List UInt8) (i : Nat) : Prop := ∀ (j : Nat) (w : Wk), j < i → l[j]? = some w → Op.bytesLess w.t t = true
def AboveT (l : List Wk) (t : List UInt8) (i : Nat) : Prop := ∀ (j : Nat) (w : Wk), i ≤ j → l[j]? = some w → Op.bytesLess w.t t = false

theorem below_sorted {l : List Wk} {t : List UInt8} {i : Nat} {x : Wk} (hs : SortedW l) (hg : l[i]? = some x) (h : Op.bytesLess x.t t = true) : BelowT l t (i + 1) := fun j w hj hw => by
  rcases Nat.lt_or_ge j i with h1 | h1
  · exact less_trans (sorted_get hs h1 hw hg) h
  · have : j = i := by omega
    subst this
    rw [hg] at hw; cases hw; exact h

theorem above_sorted {l : List Wk} {t : List UInt8} {i : Nat} {x : Wk} (hs : SortedW l) (hg : l[i]? = some x) (h : Op.bytesLess x.t t = false) : AboveT l t i := fun j w hj hw => by
  rcases Nat.lt_or_ge i j with h1 | h1
  · cases hb : Op.bytesLess w.t t with
    | false => rfl
    | true =>
      have := less_trans (sorted_get hs h1 hg hw) hb
      rw [h] at this; cases this
  · have : j = i := by omega
    subst this
    rw [hg] at hw; cases hw; exact h

theorem add_pos_step {l : List Wk} {t : List UInt8} {k : Nat} {w : Wk} (hb : BelowT l t k) (hg : l[k]? = some w) (h : Op.bytesLess w.t t = true) : BelowT l t (k + 1) := fun j x hj hx => by
  rcases Nat.lt_or_ge j k with h1 | h1
  · exact hb j x h1 hx
  · have : j = k := by omega
    subst this
    rw [hg] at hx; cases hx; exact h

end Go.Proofs.YtokifgdmddnpoaaDoorPg

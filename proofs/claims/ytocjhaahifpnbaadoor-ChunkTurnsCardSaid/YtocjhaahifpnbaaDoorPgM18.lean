/- Own texts, laid together: Pg11DT, Pg11DBy, Pg11DVal, Pg11DValB. -/
import Derived.Test.YtocjhaahifpnbaaDoorProg
import Derived.Test.YtocjhaahifpnbaaDoorPgM12
import Derived.KernelRfl
import Derived.Test.YtocjhaahifpnbaaDoorPgM17
import Derived.Test.YtocjhaahifpnbaaDoorPgM13
/- The base of a seat: its types, as a table that computes, and its functions. -/
namespace Go.Proofs.YtocjhaahifpnbaaDoorPg
open Go Go.RowKit

def tbl : List TI := [
  TI.bad,
  { kind := .fn, size := 1, bytes := 8, zero := [.nilf], good := true },
  { kind := .int .i64, size := 1, bytes := 8, zero := [.int .i64 0], good := true },
  { kind := .int .i64, size := 1, bytes := 8, zero := [.int .i64 0], good := true },
  { kind := .bool, size := 1, bytes := 1, zero := [.bool false], good := true },
  { kind := .int .u8, size := 1, bytes := 1, zero := [.int .u8 0], good := true },
  { kind := .int .u8, size := 1, bytes := 1, zero := [.int .u8 0], good := true },
  { kind := .struct [(0, 2), (1, 3), (2, 4), (3, 6)], size := 4, bytes := 24, zero := [.int .i64 0, .int .i64 0, .bool false, .int .u8 0], good := true, eqok := true },
  { kind := .struct [(0, 2), (1, 3), (2, 4), (3, 6)], size := 4, bytes := 24, zero := [.int .i64 0, .int .i64 0, .bool false, .int .u8 0], good := true, eqok := true },
  { kind := .str, size := 1, bytes := 16, zero := [.str []], good := true },
  { kind := .str, size := 1, bytes := 16, zero := [.str []], good := true },
  { kind := .str, size := 1, bytes := 16, zero := [.str []], good := true },
  { kind := .int .u64, size := 1, bytes := 8, zero := [.int .u64 0], good := true },
  { kind := .struct [(0, 9), (1, 12)], size := 2, bytes := 24, zero := [.str [], .int .u64 0], good := true },
  { kind := .struct [(0, 9), (1, 12)], size := 2, bytes := 24, zero := [.str [], .int .u64 0], good := true },
  { kind := .ptr 130, size := 1, bytes := 8, zero := [.nilp], good := true },
  { kind := .ptr 133, size := 1, bytes := 8, zero := [.nilp], good := true },
  { kind := .ptr 140, size := 1, bytes := 8, zero := [.nilp], good := true },
  { kind := .struct [(0, 17)], size := 1, bytes := 8, zero := [.nilp], good := true },
  { kind := .struct [(0, 17)], size := 1, bytes := 8, zero := [.nilp], good := true },
  { kind := .iface, size := 1, bytes := 16, zero := [.nili], good := true },
  { kind := .int .i32, size := 1, bytes := 4, zero := [.int .i32 0], good := true },
  { kind := .sl 38, size := 1, bytes := 24, zero := [.nils], good := true },
  { kind := .fn, size := 1, bytes := 8, zero := [.nilf], good := true },
  { kind := .fn, size := 1, bytes := 8, zero := [.nilf], good := true },
  { kind := .sl 9, size := 1, bytes := 24, zero := [.nils], good := true },
  { kind := .fn, size := 1, bytes := 8, zero := [.nilf], good := true },
  { kind := .int .i64, size := 1, bytes := 8, zero := [.int .i64 0], good := true },
  TI.bad,
  { kind := .fn, size := 1, bytes := 8, zero := [.nilf], good := true },
  { kind := .fn, size := 1, bytes := 8, zero := [.nilf], good := true },
  { kind := .fn, size := 1, bytes := 8, zero := [.nilf], good := true },
  { kind := .fn, size := 1, bytes := 8, zero := [.nilf], good := true },
  { kind := .fn, size := 1, bytes := 8, zero := [.nilf], good := true },
  { kind := .struct [(0, 3), (1, 3), (2, 3), (3, 22)], size := 4, bytes := 48, zero := [.int .i64 0, .int .i64 0, .int .i64 0, .nils], good := true },
  { kind := .struct [(0, 3), (1, 3), (2, 3), (3, 22)], size := 4, bytes := 48, zero := [.int .i64 0, .int .i64 0, .int .i64 0, .nils], good := true },
  { kind := .fn, size := 1, bytes := 8, zero := [.nilf], good := true },
  { kind := .struct [(0, 9), (1, 4), (2, 9)], size := 3, bytes := 40, zero := [.str [], .bool false, .str []], good := true, eqok := true },
  { kind := .struct [(0, 9), (1, 4), (2, 9)], size := 3, bytes := 40, zero := [.str [], .bool false, .str []], good := true, eqok := true },
  TI.bad,
  { kind := .fn, size := 1, bytes := 8, zero := [.nilf], good := true },
  { kind := .fn, size := 1, bytes := 8, zero := [.nilf], good := true },
  { kind := .fn, size := 1, bytes := 8, zero := [.nilf], good := true },
  { kind := .sl 5, size := 1, bytes := 24, zero := [.nils], good := true },
  TI.bad,
  { kind := .fn, size := 1, bytes := 8, zero := [.nilf], good := true },
  { kind := .fn, size := 1, bytes := 8, zero := [.nilf], good := true },
  { kind := .fn, size := 1, bytes := 8, zero := [.nilf], good := true },
  TI.bad,
  { kind := .fn, size := 1, bytes := 8, zero := [.nilf], good := true },
  { kind := .fn, size := 1, bytes := 8, zero := [.nilf], good := true },
  { kind := .sl 3, size := 1, bytes := 24, zero := [.nils], good := true },
  { kind := .fn, size := 1, bytes := 8, zero := [.nilf], good := true },
  { kind := .fn, size := 1, bytes := 8, zero := [.nilf], good := true },
  { kind := .fn, size := 1, bytes := 8, zero := [.nilf], good := true },
  { kind := .fn, size := 1, bytes := 8, zero := [.nilf], good := true },
  { kind := .fn, size := 1, bytes := 8, zero := [.nilf], good := true },
  { kind := .fn, size := 1, bytes := 8, zero := [.nilf], good := true },
  { kind := .fn, size := 1, bytes := 8, zero := [.nilf], good := true },
  { kind := .struct [(0, 3), (1, 3), (2, 9)], size := 3, bytes := 32, zero := [.int .i64 0, .int .i64 0, .str []], good := true, eqok := true },
  { kind := .struct [(0, 3), (1, 3), (2, 9)], size := 3, bytes := 32, zero := [.int .i64 0, .int .i64 0, .str []], good := true, eqok := true },
  { kind := .sl 60, size := 1, bytes := 24, zero := [.nils], good := true },
  TI.bad,
  { kind := .fn, size := 1, bytes := 8, zero := [.nilf], good := true },
  { kind := .ptr 90, size := 1, bytes := 8, zero := [.nilp], good := true },
  { kind := .fn, size := 1, bytes := 8, zero := [.nilf], good := true },
  { kind := .fn, size := 1, bytes := 8, zero := [.nilf], good := true },
  { kind := .fn, size := 1, bytes := 8, zero := [.nilf], good := true },
  { kind := .ptr 70, size := 1, bytes := 8, zero := [.nilp], good := true },
  { kind := .struct [(0, 43), (1, 27)], size := 2, bytes := 32, zero := [.nils, .int .i64 0], good := true },
  { kind := .struct [(0, 43), (1, 27)], size := 2, bytes := 32, zero := [.nils, .int .i64 0], good := true },
  { kind := .arr 4 3, size := 4, bytes := 32, zero := [.int .i64 0, .int .i64 0, .int .i64 0, .int .i64 0], good := true },
  { kind := .fn, size := 1, bytes := 8, zero := [.nilf], good := true },
  { kind := .fn, size := 1, bytes := 8, zero := [.nilf], good := true },
  { kind := .fn, size := 1, bytes := 8, zero := [.nilf], good := true },
  { kind := .fn, size := 1, bytes := 8, zero := [.nilf], good := true },
  { kind := .fn, size := 1, bytes := 8, zero := [.nilf], good := true },
  { kind := .fn, size := 1, bytes := 8, zero := [.nilf], good := true },
  { kind := .fn, size := 1, bytes := 8, zero := [.nilf], good := true },
  { kind := .int .u64, size := 1, bytes := 8, zero := [.int .u64 0], good := true },
  TI.bad,
  { kind := .fn, size := 1, bytes := 8, zero := [.nilf], good := true },
  { kind := .fn, size := 1, bytes := 8, zero := [.nilf], good := true },
  { kind := .fn, size := 1, bytes := 8, zero := [.nilf], good := true },
  { kind := .fn, size := 1, bytes := 8, zero := [.nilf], good := true },
  { kind := .fn, size := 1, bytes := 8, zero := [.nilf], good := true },
  { kind := .fn, size := 1, bytes := 8, zero := [.nilf], good := true },
  TI.bad,
  { kind := .fn, size := 1, bytes := 8, zero := [.nilf], good := true },
  { kind := .struct [(0, 43), (1, 27)], size := 2, bytes := 32, zero := [.nils, .int .i64 0], good := true },
  { kind := .struct [(0, 43), (1, 27)], size := 2, bytes := 32, zero := [.nils, .int .i64 0], good := true },
  { kind := .fn, size := 1, bytes := 8, zero := [.nilf], good := true },
  { kind := .fn, size := 1, bytes := 8, zero := [.nilf], good := true },
  TI.bad,
  { kind := .fn, size := 1, bytes := 8, zero := [.nilf], good := true },
  { kind := .fn, size := 1, bytes := 8, zero := [.nilf], good := true },
  { kind := .fn, size := 1, bytes := 8, zero := [.nilf], good := true },
  { kind := .fn, size := 1, bytes := 8, zero := [.nilf], good := true },
  { kind := .fn, size := 1, bytes := 8, zero := [.nilf], good := true },
  { kind := .fn, size := 1, bytes := 8, zero := [.nilf], good := true },
  { kind := .fn, size := 1, bytes := 8, zero := [.nilf], good := true },
  { kind := .int .u64, size := 1, bytes := 8, zero := [.int .u64 0], good := true },
  { kind := .fn, size := 1, bytes := 8, zero := [.nilf], good := true },
  TI.bad,
  { kind := .fn, size := 1, bytes := 8, zero := [.nilf], good := true },
  { kind := .fn, size := 1, bytes := 8, zero := [.nilf], good := true },
  { kind := .fn, size := 1, bytes := 8, zero := [.nilf], good := true },
  { kind := .fn, size := 1, bytes := 8, zero := [.nilf], good := true },
  TI.bad,
  { kind := .fn, size := 1, bytes := 8, zero := [.nilf], good := true },
  { kind := .fn, size := 1, bytes := 8, zero := [.nilf], good := true },
  { kind := .ptr 113, size := 1, bytes := 8, zero := [.nilp], good := true },
  { kind := .struct [(0, 111), (1, 43)], size := 2, bytes := 32, zero := [.nilp, .nils], good := true },
  { kind := .struct [(0, 111), (1, 43)], size := 2, bytes := 32, zero := [.nilp, .nils], good := true },
  { kind := .iface, size := 1, bytes := 16, zero := [.nili], good := true },
  { kind := .iface, size := 1, bytes := 16, zero := [.nili], good := true },
  { kind := .fn, size := 1, bytes := 8, zero := [.nilf], good := true },
  { kind := .fn, size := 1, bytes := 8, zero := [.nilf], good := true },
  { kind := .int .u32, size := 1, bytes := 4, zero := [.int .u32 0], good := true },
  TI.bad,
  { kind := .fn, size := 1, bytes := 8, zero := [.nilf], good := true },
  { kind := .ptr 5, size := 1, bytes := 8, zero := [.nilp], good := true },
  { kind := .fn, size := 1, bytes := 8, zero := [.nilf], good := true },
  TI.bad,
  { kind := .struct [(0, 5), (1, 5)], size := 2, bytes := 2, zero := [.int .u8 0, .int .u8 0], good := true, eqok := true },
  { kind := .struct [(0, 5), (1, 5)], size := 2, bytes := 2, zero := [.int .u8 0, .int .u8 0], good := true, eqok := true },
  TI.bad,
  { kind := .other, size := 1, bytes := 8, zero := [.nilp], good := true },
  { kind := .fn, size := 1, bytes := 8, zero := [.nilf], good := true },
  { kind := .struct [(0, 17), (1, 17), (2, 17), (3, 9)], size := 4, bytes := 40, zero := [.nilp, .nilp, .nilp, .str []], good := true },
  { kind := .struct [(0, 17), (1, 17), (2, 17), (3, 9)], size := 4, bytes := 40, zero := [.nilp, .nilp, .nilp, .str []], good := true },
  { kind := .arr 0 16, size := 0, bytes := 0, zero := [], good := true },
  { kind := .struct [(0, 131)], size := 0, bytes := 0, zero := [], good := true },
  { kind := .struct [(0, 131)], size := 0, bytes := 0, zero := [], good := true },
  { kind := .int .u8, size := 1, bytes := 1, zero := [.int .u8 0], good := true },
  { kind := .int .u8, size := 1, bytes := 1, zero := [.int .u8 0], good := true },
  { kind := .fn, size := 1, bytes := 8, zero := [.nilf], good := true },
  { kind := .int .i32, size := 1, bytes := 4, zero := [.int .i32 0], good := true },
  { kind := .int .i32, size := 1, bytes := 4, zero := [.int .i32 0], good := true },
  { kind := .struct [(0, 12), (1, 12), (2, 118), (3, 134), (4, 5), (5, 5), (6, 135), (7, 136), (8, 121), (9, 137), (10, 138)], size := 11, bytes := 48, zero := [.int .u64 0, .int .u64 0, .int .u32 0, .int .u8 0, .int .u8 0, .int .u8 0, .int .u8 0, .nilf, .nilp, .int .i32 0, .int .i32 0], good := true },
  { kind := .struct [(0, 12), (1, 12), (2, 118), (3, 134), (4, 5), (5, 5), (6, 135), (7, 136), (8, 121), (9, 137), (10, 138)], size := 11, bytes := 48, zero := [.int .u64 0, .int .u64 0, .int .u32 0, .int .u8 0, .int .u8 0, .int .u8 0, .int .u8 0, .nilf, .nilp, .int .i32 0, .int .i32 0], good := true }]
def tt (t : Nat) : TI := tbl.getD t TI.bad

set_option maxRecDepth 100000 in
theorem tt_ok : TIok Tryd.prog tt := tiok_of (l := tbl) ⟨
  .inr rfl,
  .inl (by kernel_rfl),
  .inl (by kernel_rfl),
  .inl (by kernel_rfl),
  .inl (by kernel_rfl),
  .inl (by kernel_rfl),
  .inl (by kernel_rfl),
  .inl (by kernel_rfl),
  .inl (by kernel_rfl),
  .inl (by kernel_rfl),
  .inl (by kernel_rfl),
  .inl (by kernel_rfl),
  .inl (by kernel_rfl),
  .inl (by kernel_rfl),
  .inl (by kernel_rfl),
  .inl (by kernel_rfl),
  .inl (by kernel_rfl),
  .inl (by kernel_rfl),
  .inl (by kernel_rfl),
  .inl (by kernel_rfl),
  .inl (by kernel_rfl),
  .inl (by kernel_rfl),
  .inl (by kernel_rfl),
  .inl (by kernel_rfl),
  .inl (by kernel_rfl),
  .inl (by kernel_rfl),
  .inl (by kernel_rfl),
  .inl (by kernel_rfl),
  .inr rfl,
  .inl (by kernel_rfl),
  .inl (by kernel_rfl),
  .inl (by kernel_rfl),
  .inl (by kernel_rfl),
  .inl (by kernel_rfl),
  .inl (by kernel_rfl),
  .inl (by kernel_rfl),
  .inl (by kernel_rfl),
  .inl (by kernel_rfl),
  .inl (by kernel_rfl),
  .inr rfl,
  .inl (by kernel_rfl),
  .inl (by kernel_rfl),
  .inl (by kernel_rfl),
  .inl (by kernel_rfl),
  .inr rfl,
  .inl (by kernel_rfl),
  .inl (by kernel_rfl),
  .inl (by kernel_rfl),
  .inr rfl,
  .inl (by kernel_rfl),
  .inl (by kernel_rfl),
  .inl (by kernel_rfl),
  .inl (by kernel_rfl),
  .inl (by kernel_rfl),
  .inl (by kernel_rfl),
  .inl (by kernel_rfl),
  .inl (by kernel_rfl),
  .inl (by kernel_rfl),
  .inl (by kernel_rfl),
  .inl (by kernel_rfl),
  .inl (by kernel_rfl),
  .inl (by kernel_rfl),
  .inr rfl,
  .inl (by kernel_rfl),
  .inl (by kernel_rfl),
  .inl (by kernel_rfl),
  .inl (by kernel_rfl),
  .inl (by kernel_rfl),
  .inl (by kernel_rfl),
  .inl (by kernel_rfl),
  .inl (by kernel_rfl),
  .inl (by kernel_rfl),
  .inl (by kernel_rfl),
  .inl (by kernel_rfl),
  .inl (by kernel_rfl),
  .inl (by kernel_rfl),
  .inl (by kernel_rfl),
  .inl (by kernel_rfl),
  .inl (by kernel_rfl),
  .inl (by kernel_rfl),
  .inr rfl,
  .inl (by kernel_rfl),
  .inl (by kernel_rfl),
  .inl (by kernel_rfl),
  .inl (by kernel_rfl),
  .inl (by kernel_rfl),
  .inl (by kernel_rfl),
  .inr rfl,
  .inl (by kernel_rfl),
  .inl (by kernel_rfl),
  .inl (by kernel_rfl),
  .inl (by kernel_rfl),
  .inl (by kernel_rfl),
  .inr rfl,
  .inl (by kernel_rfl),
  .inl (by kernel_rfl),
  .inl (by kernel_rfl),
  .inl (by kernel_rfl),
  .inl (by kernel_rfl),
  .inl (by kernel_rfl),
  .inl (by kernel_rfl),
  .inl (by kernel_rfl),
  .inl (by kernel_rfl),
  .inr rfl,
  .inl (by kernel_rfl),
  .inl (by kernel_rfl),
  .inl (by kernel_rfl),
  .inl (by kernel_rfl),
  .inr rfl,
  .inl (by kernel_rfl),
  .inl (by kernel_rfl),
  .inl (by kernel_rfl),
  .inl (by kernel_rfl),
  .inl (by kernel_rfl),
  .inl (by kernel_rfl),
  .inl (by kernel_rfl),
  .inl (by kernel_rfl),
  .inl (by kernel_rfl),
  .inl (by kernel_rfl),
  .inr rfl,
  .inl (by kernel_rfl),
  .inl (by kernel_rfl),
  .inl (by kernel_rfl),
  .inr rfl,
  .inl (by kernel_rfl),
  .inl (by kernel_rfl),
  .inr rfl,
  .inl (by kernel_rfl),
  .inl (by kernel_rfl),
  .inl (by kernel_rfl),
  .inl (by kernel_rfl),
  .inl (by kernel_rfl),
  .inl (by kernel_rfl),
  .inl (by kernel_rfl),
  .inl (by kernel_rfl),
  .inl (by kernel_rfl),
  .inl (by kernel_rfl),
  .inl (by kernel_rfl),
  .inl (by kernel_rfl),
  .inl (by kernel_rfl),
  .inl (by kernel_rfl),
  trivial⟩

def fns : List Nat := [2, 3, 4, 5, 6, 7, 8, 9, 10, 11, 12, 13, 14, 15, 16, 17, 18, 19, 20, 21, 22, 23, 24, 25, 26, 27, 28, 29, 30, 31, 32, 33, 34, 35, 36, 37, 38, 39, 40, 41, 42, 43, 44, 45, 46, 47, 48, 49, 50, 51, 52, 53, 54, 55, 56, 57, 58, 59, 60, 61, 62, 63, 64, 65, 66, 67, 68, 69, 70, 71, 72, 73, 74, 75, 77, 78, 79, 80, 81, 82, 83, 84, 85, 86, 87, 88, 90, 91, 92, 93, 94, 95, 96, 97, 98, 100, 101, 102, 126]
theorem fns_ok : Entered Tryd.prog fns := ⟨Tryd.call2, Tryd.call3, Tryd.call4, Tryd.call5, Tryd.call6, Tryd.call7, Tryd.call8, Tryd.call9, Tryd.call10, Tryd.call11, Tryd.call12, Tryd.call13, Tryd.call14, Tryd.call15, Tryd.call16, Tryd.call17, Tryd.call18, Tryd.call19, Tryd.call20, Tryd.call21, Tryd.call22, Tryd.call23, Tryd.call24, Tryd.call25, Tryd.call26, Tryd.call27, Tryd.call28, Tryd.call29, Tryd.call30, Tryd.call31, Tryd.call32, Tryd.call33, Tryd.call34, Tryd.call35, Tryd.call36, Tryd.call37, Tryd.call38, Tryd.call39, Tryd.call40, Tryd.call41, Tryd.call42, Tryd.call43, Tryd.call44, Tryd.call45, Tryd.call46, Tryd.call47, Tryd.call48, Tryd.call49, Tryd.call50, Tryd.call51, Tryd.call52, Tryd.call53, Tryd.call54, Tryd.call55, Tryd.call56, Tryd.call57, Tryd.call58, Tryd.call59, Tryd.call60, Tryd.call61, Tryd.call62, Tryd.call63, Tryd.call64, Tryd.call65, Tryd.call66, Tryd.call67, Tryd.call68, Tryd.call69, Tryd.call70, Tryd.call71, Tryd.call72, Tryd.call73, Tryd.call74, Tryd.call75, Tryd.call77, Tryd.call78, Tryd.call79, Tryd.call80, Tryd.call81, Tryd.call82, Tryd.call83, Tryd.call84, Tryd.call85, Tryd.call86, Tryd.call87, Tryd.call88, Tryd.call90, Tryd.call91, Tryd.call92, Tryd.call93, Tryd.call94, Tryd.call95, Tryd.call96, Tryd.call97, Tryd.call98, Tryd.call100, Tryd.call101, Tryd.call102, Tryd.call126, trivial⟩
theorem mixed_ok : Tryd.prog.follows .mixedOrders = true := by kernel_rfl
noncomputable abbrev cx (n k : Nat) : Ctx := ⟨Tryd.prog, tt, fns, n, k, false, none⟩
theorem cx_ok (n k : Nat) : CtxOk (cx n k) := ⟨tt_ok, entered_get fns fns_ok, mixed_ok⟩

end Go.Proofs.YtocjhaahifpnbaaDoorPg

/- A function's body, walked. -/
namespace Go.Proofs.YtocjhaahifpnbaaDoorPg
open Go Go.RowKit
set_option linter.unusedSimpArgs false

theorem by_body {f : FuncId} {fn : Func} (hf : Tryd.prog.funcs[f]? = some fn) (k : Nat) {args : List V} {H : List O} {Q : V → List O → Prop} (hb : fn.body = some (fn.body.getD .skip)) (hl : args.length ≤ fn.ntmps)
    (h : abody (cx fn.ntmps k) fn (fn.body.getD .skip) args H Q) : ACall Tryd.prog f k args H Q :=
  acall_intro (cx_ok fn.ntmps k) hf hb rfl rfl hl h

abbrev fI (n : Int) : V := .int .i64 n

end Go.Proofs.YtocjhaahifpnbaaDoorPg

/- Values: the document's functions. -/
namespace Go.Proofs.YtocjhaahifpnbaaDoorPg
open Go Go.RowKit
set_option linter.unusedSimpArgs false
set_option linter.unusedVariables false

variable {Q : V → List O → Prop}

theorem wrapI {n : Int} (h : -9223372036854775808 ≤ n ∧ n ≤ 9223372036854775807) : IntKind.i64.wrap n = n := by rw [IntKind.wrap_i64]; omega

theorem drop_cons {s : List UInt8} {i : Nat} {c : UInt8} {r : List UInt8} (h : s.drop i = c :: r) : i < s.length ∧ s[i]? = some c ∧ ∀ k, s[i + 1 + k]? = r[k]? := by
  have hl : i < s.length := by
    rcases Nat.lt_or_ge i s.length with h1 | h1
    · exact h1
    · rw [List.drop_of_length_le h1] at h; cases h
  have e : ∀ k, s[i + k]? = (c :: r)[k]? := fun k => by rw [← h, List.getElem?_drop]
  exact ⟨hl, by simpa using e 0, fun k => by have := e (k + 1); rw [show i + 1 + k = i + (k + 1) by omega, this]; simp⟩

set_option maxRecDepth 10000 in
set_option maxHeartbeats 4000000 in
theorem utf8_spec {s : List UInt8} (hs : s.length < 1000000000000000000) (h : Q (.bool (u8 s)) []) : ACall Tryd.prog 85 0 [.str s] [] Q := by
  refine by_body Tryd.func85 0 rfl (Nat.le_of_ble_eq_true rfl) ?_
  conv => whnf
  refine ⟨⟨[0, 3], fun m vs H => ∃ i : Nat, vs = [.str s, fI i] ∧ H = [] ∧ u8 s = u8 (s.drop i) ∧ i ≤ s.length ∧ m = s.length - i, .at _ ⟨0, rfl, rfl, by simp, Nat.zero_le _, rfl⟩, ?_⟩⟩
  rintro m vs H ⟨i, rfl, rfl, hu, hi, rfl⟩
  conv => whnf
  refine branch_i (fun c1 => ?_) (fun c1 => ?_) <;> try rw [c1] <;> conv => whnf
  rotate_left
  focus
    have c1' := of_decide_eq_false c1
    rw [List.drop_of_length_le (by omega), u8_nil] at hu
    rw [hu] at h
    exact ⟨[], rfl, h⟩
  have c1' := of_decide_eq_true c1
  obtain ⟨c, r, hd⟩ : ∃ c r, s.drop i = c :: r := by
    cases hx : s.drop i with
    | nil => have := List.drop_eq_nil_iff.1 hx; omega
    | cons c r => exact ⟨c, r, rfl⟩
  obtain ⟨h1, h2, h3⟩ := drop_cons hd
  have hlr : r.length = s.length - i - 1 := by have := congrArg List.length hd; rw [List.length_drop, List.length_cons] at this; omega
  rw [hd, u8_cons] at hu
  have hc : c.toNat < 256 := c.toNat_lt
  refine ⟨c, ⟨by omega, h2⟩, ?_⟩
  conv => whnf
  rw [wrapI (n := (c.toNat : Int)) (by omega)]
  unfold u8head at hu
  refine branch_i (fun c2 => ?_) (fun c2 => ?_) <;> try rw [c2] <;> conv => whnf
  focus
    have c2' := of_decide_eq_true c2
    rw [if_pos c2'] at hu
    have hu : u8 s = u8 r := hu
    refine .go [] rfl (s.length - (i + 1)) (by omega) ⟨i + 1, ?_, rfl, ?_, by omega, rfl⟩
    · show [V.str s, V.int .i64 (IntKind.i64.wrap ((i : Int) + 1))] = _
      rw [wrapI (by omega)]; rfl
    · have : s.drop (i + 1) = r := by rw [← List.drop_drop, hd]; rfl
      rw [hu, this]
  have c2' := of_decide_eq_false c2
  rw [if_neg c2'] at hu
  by_cases a1 : (c.toNat : Int) < 192
  focus
    rw [show lead c.toNat = none by unfold lead; rw [if_pos a1]] at hu
    have hu : u8 s = false := hu
    rw [hu] at h
    rw [show decide (192 ≤ (c.toNat : Int)) = false by simp; omega]
    conv => whnf
    rw [show decide (224 ≤ (c.toNat : Int)) = false by simp; omega]
    conv => whnf
    rw [show decide (240 ≤ (c.toNat : Int)) = false by simp; omega]
    conv => whnf
    exact ⟨[], rfl, h⟩
  rw [show decide (192 ≤ (c.toNat : Int)) = true by simp; omega]
  conv => whnf
  by_cases a2 : (c.toNat : Int) < 224
  focus
    rw [show decide ((c.toNat : Int) < 224) = true by simp; omega]
    conv => whnf
    have hl : lead (c.toNat : Int) = some (1, 128, (c.toNat : Int) - 192) := by unfold lead; rw [if_neg a1, if_pos a2]
    rw [hl] at hu
    rw [wrapI (n := (c.toNat : Int) - 192) (by omega), wrapI (n := (i : Int) + 2) (by omega)]
    refine branch_i (fun b1 => ?_) (fun b1 => ?_) <;> try rw [b1] <;> conv => whnf
    focus
      have b1' := of_decide_eq_true b1
      have hu : u8 s = false := by rw [hu]; simp only [if_pos (show r.length < 1 by omega)]
      rw [hu] at h
      exact ⟨[], rfl, h⟩
    have b1' := of_decide_eq_false b1
    simp only [if_neg (show ¬ r.length < 1 by omega)] at hu
    have hv0b : 0 ≤ (c.toNat : Int) - 192 ∧ (c.toNat : Int) - 192 < 32 := by omega
    generalize (c.toNat : Int) - 192 = v0 at *
    refine ⟨⟨[0, 3, 5, 6, 7, 8], fun m vs H => ∃ (k : Nat) (v : Int), vs = [.str s, fI i, fI 2, fI 128, fI v, fI ((k + 1 : Nat) : Int)] ∧ H = [] ∧ k ≤ 1 ∧ cv r v0 k = some v ∧ m = 1 - k, .at _ ⟨0, v0, rfl, rfl, Nat.zero_le _, rfl, rfl⟩, ?_⟩⟩
    rintro m vs H ⟨k, v, rfl, rfl, hk, hcv, rfl⟩
    conv => whnf
    refine branch_i (fun b2 => ?_) (fun b2 => ?_) <;> try rw [b2] <;> conv => whnf
    focus
      have b2' := of_decide_eq_true b2
      have hb := cv_bound hv0b hcv
      have hv : v < 131072 := by
        have hk3 : k = 0 ∨ k = 1 ∨ k = 2 := by omega
        rcases hk3 with rfl | rfl | rfl <;> simp at hb <;> omega
      have hkr : k < r.length := by omega
      have hg : r[k]? = some r[k] := List.getElem?_eq_getElem hkr
      generalize r[k] = d at *
      have hdl : d.toNat < 256 := d.toNat_lt
      rw [wrapI (n := (i : Int) + ((k + 1 : Nat) : Int)) (by omega)]
      refine ⟨d, ⟨by omega, by rw [show ((i : Int) + ((k + 1 : Nat) : Int)).toNat = i + 1 + k by omega, h3 k, hg]⟩, ?_⟩
      conv => whnf
      rw [wrapI (n := (d.toNat : Int)) (by omega)]
      have bad : ¬ (128 ≤ d.toNat ∧ d.toNat < 192) → u8 s = false := fun hbad => by
        have e : cv r v0 (k + 1) = none := by simp only [cv, hcv, hg, if_neg hbad]
        rw [hu, cv_none e (m := 1) (by omega)]
      by_cases e1 : (d.toNat : Int) < 128
      focus
        rw [bad (by omega)] at h
        rw [show decide ((d.toNat : Int) < 128) = true by simp; omega]
        conv => whnf
        exact ⟨[], rfl, h⟩
      rw [show decide ((d.toNat : Int) < 128) = false by simp; omega]
      conv => whnf
      by_cases e2 : 192 ≤ (d.toNat : Int)
      focus
        rw [bad (by omega)] at h
        rw [show decide (192 ≤ (d.toNat : Int)) = true by simp; omega]
        conv => whnf
        exact ⟨[], rfl, h⟩
      rw [show decide (192 ≤ (d.toNat : Int)) = false by simp; omega]
      conv => whnf
      refine .go [] rfl (1 - (k + 1)) (by omega) ⟨k + 1, 64 * v + d.toNat - 128, ?_, rfl, by omega, by simp only [cv, hcv, hg]; rw [if_pos (by omega)], rfl⟩
      show [V.str s, fI i, fI 2, fI 128, V.int .i64 (IntKind.i64.wrap (IntKind.i64.wrap (IntKind.i64.wrap (64 * v) + d.toNat) - 128)), V.int .i64 (IntKind.i64.wrap (((k + 1 : Nat) : Int) + 1))] = _
      rw [wrapI (n := 64 * v) (by omega), wrapI (n := 64 * v + d.toNat) (by omega), wrapI (n := 64 * v + d.toNat - 128) (by omega), wrapI (n := ((k + 1 : Nat) : Int) + 1) (by omega)]; rfl
    have b2' := of_decide_eq_false b2
    have hkn : k = 1 := by omega
    subst hkn
    rw [hcv] at hu
    have hdr : s.drop (i + 2) = r.drop 1 := by
      rw [show i + 2 = i + 1 + 1 by omega, ← List.drop_drop, show s.drop (i + 1) = r by rw [← List.drop_drop, hd]; rfl]
    have yes : badV v 128 = true → u8 s = false := fun hb => by rw [hu]; simp only [hb, if_true]
    have no : badV v 128 = false → u8 s = u8 (r.drop 1) := fun hb => by rw [hu]; simp only [hb, Bool.false_eq_true, if_false]
    unfold badV at yes no
    refine branch_i (fun d1 => ?_) (fun d1 => ?_) <;> rw [d1] at yes no <;> try rw [d1] <;> conv => whnf
    focus rw [yes rfl] at h; exact ⟨[], rfl, h⟩
    refine branch_i (fun d2 => ?_) (fun d2 => ?_) <;> rw [d2] at yes no <;> try rw [d2] <;> conv => whnf
    focus rw [yes rfl] at h; exact ⟨[], rfl, h⟩
    refine branch_i (fun d3 => ?_) (fun d3 => ?_) <;> rw [d3] at yes no <;> try rw [d3] <;> conv => whnf
    focus
      refine branch_i (fun d4 => ?_) (fun d4 => ?_) <;> rw [d4] at yes no <;> try rw [d4] <;> conv => whnf
      focus rw [yes rfl] at h; exact ⟨[], rfl, h⟩
    all_goals
      refine .go [] rfl (s.length - (i + 2)) (by omega) ⟨i + 2, ?_, rfl, by rw [no rfl, hdr], by omega, rfl⟩
      show [V.str s, V.int .i64 (IntKind.i64.wrap ((i : Int) + 2))] = _
      rw [wrapI (by omega)]; rfl
  rw [show decide ((c.toNat : Int) < 224) = false by simp; omega]
  conv => whnf
  rw [show decide (224 ≤ (c.toNat : Int)) = true by simp; omega]
  conv => whnf
  by_cases a3 : (c.toNat : Int) < 240
  focus
    rw [show decide ((c.toNat : Int) < 240) = true by simp; omega]
    conv => whnf
    have hl : lead (c.toNat : Int) = some (2, 2048, (c.toNat : Int) - 224) := by unfold lead; rw [if_neg a1, if_neg a2, if_pos a3]
    rw [hl] at hu
    rw [wrapI (n := (c.toNat : Int) - 224) (by omega), wrapI (n := (i : Int) + 3) (by omega)]
    refine branch_i (fun b1 => ?_) (fun b1 => ?_) <;> try rw [b1] <;> conv => whnf
    focus
      have b1' := of_decide_eq_true b1
      have hu : u8 s = false := by rw [hu]; simp only [if_pos (show r.length < 2 by omega)]
      rw [hu] at h
      exact ⟨[], rfl, h⟩
    have b1' := of_decide_eq_false b1
    simp only [if_neg (show ¬ r.length < 2 by omega)] at hu
    have hv0b : 0 ≤ (c.toNat : Int) - 224 ∧ (c.toNat : Int) - 224 < 32 := by omega
    generalize (c.toNat : Int) - 224 = v0 at *
    refine ⟨⟨[0, 3, 5, 6, 7, 8], fun m vs H => ∃ (k : Nat) (v : Int), vs = [.str s, fI i, fI 3, fI 2048, fI v, fI ((k + 1 : Nat) : Int)] ∧ H = [] ∧ k ≤ 2 ∧ cv r v0 k = some v ∧ m = 2 - k, .at _ ⟨0, v0, rfl, rfl, Nat.zero_le _, rfl, rfl⟩, ?_⟩⟩
    rintro m vs H ⟨k, v, rfl, rfl, hk, hcv, rfl⟩
    conv => whnf
    refine branch_i (fun b2 => ?_) (fun b2 => ?_) <;> try rw [b2] <;> conv => whnf
    focus
      have b2' := of_decide_eq_true b2
      have hb := cv_bound hv0b hcv
      have hv : v < 131072 := by
        have hk3 : k = 0 ∨ k = 1 ∨ k = 2 := by omega
        rcases hk3 with rfl | rfl | rfl <;> simp at hb <;> omega
      have hkr : k < r.length := by omega
      have hg : r[k]? = some r[k] := List.getElem?_eq_getElem hkr
      generalize r[k] = d at *
      have hdl : d.toNat < 256 := d.toNat_lt
      rw [wrapI (n := (i : Int) + ((k + 1 : Nat) : Int)) (by omega)]
      refine ⟨d, ⟨by omega, by rw [show ((i : Int) + ((k + 1 : Nat) : Int)).toNat = i + 1 + k by omega, h3 k, hg]⟩, ?_⟩
      conv => whnf
      rw [wrapI (n := (d.toNat : Int)) (by omega)]
      have bad : ¬ (128 ≤ d.toNat ∧ d.toNat < 192) → u8 s = false := fun hbad => by
        have e : cv r v0 (k + 1) = none := by simp only [cv, hcv, hg, if_neg hbad]
        rw [hu, cv_none e (m := 2) (by omega)]
      by_cases e1 : (d.toNat : Int) < 128
      focus
        rw [bad (by omega)] at h
        rw [show decide ((d.toNat : Int) < 128) = true by simp; omega]
        conv => whnf
        exact ⟨[], rfl, h⟩
      rw [show decide ((d.toNat : Int) < 128) = false by simp; omega]
      conv => whnf
      by_cases e2 : 192 ≤ (d.toNat : Int)
      focus
        rw [bad (by omega)] at h
        rw [show decide (192 ≤ (d.toNat : Int)) = true by simp; omega]
        conv => whnf
        exact ⟨[], rfl, h⟩
      rw [show decide (192 ≤ (d.toNat : Int)) = false by simp; omega]
      conv => whnf
      refine .go [] rfl (2 - (k + 1)) (by omega) ⟨k + 1, 64 * v + d.toNat - 128, ?_, rfl, by omega, by simp only [cv, hcv, hg]; rw [if_pos (by omega)], rfl⟩
      show [V.str s, fI i, fI 3, fI 2048, V.int .i64 (IntKind.i64.wrap (IntKind.i64.wrap (IntKind.i64.wrap (64 * v) + d.toNat) - 128)), V.int .i64 (IntKind.i64.wrap (((k + 1 : Nat) : Int) + 1))] = _
      rw [wrapI (n := 64 * v) (by omega), wrapI (n := 64 * v + d.toNat) (by omega), wrapI (n := 64 * v + d.toNat - 128) (by omega), wrapI (n := ((k + 1 : Nat) : Int) + 1) (by omega)]; rfl
    have b2' := of_decide_eq_false b2
    have hkn : k = 2 := by omega
    subst hkn
    rw [hcv] at hu
    have hdr : s.drop (i + 3) = r.drop 2 := by
      rw [show i + 3 = i + 1 + 2 by omega, ← List.drop_drop, show s.drop (i + 1) = r by rw [← List.drop_drop, hd]; rfl]
    have yes : badV v 2048 = true → u8 s = false := fun hb => by rw [hu]; simp only [hb, if_true]
    have no : badV v 2048 = false → u8 s = u8 (r.drop 2) := fun hb => by rw [hu]; simp only [hb, Bool.false_eq_true, if_false]
    unfold badV at yes no
    refine branch_i (fun d1 => ?_) (fun d1 => ?_) <;> rw [d1] at yes no <;> try rw [d1] <;> conv => whnf
    focus rw [yes rfl] at h; exact ⟨[], rfl, h⟩
    refine branch_i (fun d2 => ?_) (fun d2 => ?_) <;> rw [d2] at yes no <;> try rw [d2] <;> conv => whnf
    focus rw [yes rfl] at h; exact ⟨[], rfl, h⟩
    refine branch_i (fun d3 => ?_) (fun d3 => ?_) <;> rw [d3] at yes no <;> try rw [d3] <;> conv => whnf
    focus
      refine branch_i (fun d4 => ?_) (fun d4 => ?_) <;> rw [d4] at yes no <;> try rw [d4] <;> conv => whnf
      focus rw [yes rfl] at h; exact ⟨[], rfl, h⟩
    all_goals
      refine .go [] rfl (s.length - (i + 3)) (by omega) ⟨i + 3, ?_, rfl, by rw [no rfl, hdr], by omega, rfl⟩
      show [V.str s, V.int .i64 (IntKind.i64.wrap ((i : Int) + 3))] = _
      rw [wrapI (by omega)]; rfl
  rw [show decide ((c.toNat : Int) < 240) = false by simp; omega]
  conv => whnf
  rw [show decide (240 ≤ (c.toNat : Int)) = true by simp; omega]
  conv => whnf
  by_cases a4 : (c.toNat : Int) < 248
  focus
    rw [show decide ((c.toNat : Int) < 248) = true by simp; omega]
    conv => whnf
    have hl : lead (c.toNat : Int) = some (3, 65536, (c.toNat : Int) - 240) := by unfold lead; rw [if_neg a1, if_neg a2, if_neg a3, if_pos a4]
    rw [hl] at hu
    rw [wrapI (n := (c.toNat : Int) - 240) (by omega), wrapI (n := (i : Int) + 4) (by omega)]
    refine branch_i (fun b1 => ?_) (fun b1 => ?_) <;> try rw [b1] <;> conv => whnf
    focus
      have b1' := of_decide_eq_true b1
      have hu : u8 s = false := by rw [hu]; simp only [if_pos (show r.length < 3 by omega)]
      rw [hu] at h
      exact ⟨[], rfl, h⟩
    have b1' := of_decide_eq_false b1
    simp only [if_neg (show ¬ r.length < 3 by omega)] at hu
    have hv0b : 0 ≤ (c.toNat : Int) - 240 ∧ (c.toNat : Int) - 240 < 32 := by omega
    generalize (c.toNat : Int) - 240 = v0 at *
    refine ⟨⟨[0, 3, 5, 6, 7, 8], fun m vs H => ∃ (k : Nat) (v : Int), vs = [.str s, fI i, fI 4, fI 65536, fI v, fI ((k + 1 : Nat) : Int)] ∧ H = [] ∧ k ≤ 3 ∧ cv r v0 k = some v ∧ m = 3 - k, .at _ ⟨0, v0, rfl, rfl, Nat.zero_le _, rfl, rfl⟩, ?_⟩⟩
    rintro m vs H ⟨k, v, rfl, rfl, hk, hcv, rfl⟩
    conv => whnf
    refine branch_i (fun b2 => ?_) (fun b2 => ?_) <;> try rw [b2] <;> conv => whnf
    focus
      have b2' := of_decide_eq_true b2
      have hb := cv_bound hv0b hcv
      have hv : v < 131072 := by
        have hk3 : k = 0 ∨ k = 1 ∨ k = 2 := by omega
        rcases hk3 with rfl | rfl | rfl <;> simp at hb <;> omega
      have hkr : k < r.length := by omega
      have hg : r[k]? = some r[k] := List.getElem?_eq_getElem hkr
      generalize r[k] = d at *
      have hdl : d.toNat < 256 := d.toNat_lt
      rw [wrapI (n := (i : Int) + ((k + 1 : Nat) : Int)) (by omega)]
      refine ⟨d, ⟨by omega, by rw [show ((i : Int) + ((k + 1 : Nat) : Int)).toNat = i + 1 + k by omega, h3 k, hg]⟩, ?_⟩
      conv => whnf
      rw [wrapI (n := (d.toNat : Int)) (by omega)]
      have bad : ¬ (128 ≤ d.toNat ∧ d.toNat < 192) → u8 s = false := fun hbad => by
        have e : cv r v0 (k + 1) = none := by simp only [cv, hcv, hg, if_neg hbad]
        rw [hu, cv_none e (m := 3) (by omega)]
      by_cases e1 : (d.toNat : Int) < 128
      focus
        rw [bad (by omega)] at h
        rw [show decide ((d.toNat : Int) < 128) = true by simp; omega]
        conv => whnf
        exact ⟨[], rfl, h⟩
      rw [show decide ((d.toNat : Int) < 128) = false by simp; omega]
      conv => whnf
      by_cases e2 : 192 ≤ (d.toNat : Int)
      focus
        rw [bad (by omega)] at h
        rw [show decide (192 ≤ (d.toNat : Int)) = true by simp; omega]
        conv => whnf
        exact ⟨[], rfl, h⟩
      rw [show decide (192 ≤ (d.toNat : Int)) = false by simp; omega]
      conv => whnf
      refine .go [] rfl (3 - (k + 1)) (by omega) ⟨k + 1, 64 * v + d.toNat - 128, ?_, rfl, by omega, by simp only [cv, hcv, hg]; rw [if_pos (by omega)], rfl⟩
      show [V.str s, fI i, fI 4, fI 65536, V.int .i64 (IntKind.i64.wrap (IntKind.i64.wrap (IntKind.i64.wrap (64 * v) + d.toNat) - 128)), V.int .i64 (IntKind.i64.wrap (((k + 1 : Nat) : Int) + 1))] = _
      rw [wrapI (n := 64 * v) (by omega), wrapI (n := 64 * v + d.toNat) (by omega), wrapI (n := 64 * v + d.toNat - 128) (by omega), wrapI (n := ((k + 1 : Nat) : Int) + 1) (by omega)]; rfl
    have b2' := of_decide_eq_false b2
    have hkn : k = 3 := by omega
    subst hkn
    rw [hcv] at hu
    have hdr : s.drop (i + 4) = r.drop 3 := by
      rw [show i + 4 = i + 1 + 3 by omega, ← List.drop_drop, show s.drop (i + 1) = r by rw [← List.drop_drop, hd]; rfl]
    have yes : badV v 65536 = true → u8 s = false := fun hb => by rw [hu]; simp only [hb, if_true]
    have no : badV v 65536 = false → u8 s = u8 (r.drop 3) := fun hb => by rw [hu]; simp only [hb, Bool.false_eq_true, if_false]
    unfold badV at yes no
    refine branch_i (fun d1 => ?_) (fun d1 => ?_) <;> rw [d1] at yes no <;> try rw [d1] <;> conv => whnf
    focus rw [yes rfl] at h; exact ⟨[], rfl, h⟩
    refine branch_i (fun d2 => ?_) (fun d2 => ?_) <;> rw [d2] at yes no <;> try rw [d2] <;> conv => whnf
    focus rw [yes rfl] at h; exact ⟨[], rfl, h⟩
    refine branch_i (fun d3 => ?_) (fun d3 => ?_) <;> rw [d3] at yes no <;> try rw [d3] <;> conv => whnf
    focus
      refine branch_i (fun d4 => ?_) (fun d4 => ?_) <;> rw [d4] at yes no <;> try rw [d4] <;> conv => whnf
      focus rw [yes rfl] at h; exact ⟨[], rfl, h⟩
    all_goals
      refine .go [] rfl (s.length - (i + 4)) (by omega) ⟨i + 4, ?_, rfl, by rw [no rfl, hdr], by omega, rfl⟩
      show [V.str s, V.int .i64 (IntKind.i64.wrap ((i : Int) + 4))] = _
      rw [wrapI (by omega)]; rfl
  rw [show decide ((c.toNat : Int) < 248) = false by simp; omega]
  conv => whnf
  rw [show lead c.toNat = none by unfold lead; rw [if_neg a1, if_neg a2, if_neg a3, if_neg a4]] at hu
  have hu : u8 s = false := hu
  rw [hu] at h
  exact ⟨[], rfl, h⟩

end Go.Proofs.YtocjhaahifpnbaaDoorPg

/- Values: which may be; rows. -/
namespace Go.Proofs.YtocjhaahifpnbaaDoorPg
open Go Go.RowKit
set_option linter.unusedSimpArgs false
set_option linter.unusedVariables false

variable {Q : V → List O → Prop}

def valA (v : Val) : V := .agg [.int .i64 v.k, .int .i64 v.n, .str v.t]
def colA (c : Col) : V := .agg [.str c.n, .int .i64 c.k, .bool c.o]

theorem RVMay_spec {v : Val} (ht : v.t.length < 1000000000000000000) (h : Q (.bool (mayV v)) []) : ACall Tryd.prog 79 0 [valA v] [] Q := by
  refine by_body Tryd.func79 0 rfl (Nat.le_of_ble_eq_true rfl) ?_
  conv => whnf
  unfold mayV at h
  refine branch_i (fun c1 => ?_) (fun c1 => ?_) <;> try rw [c1] <;> conv => whnf
  focus
    rw [if_pos (of_decide_eq_true c1)] at h
    refine branch_i (fun c2 => ?_) (fun c2 => ?_) <;> rw [c2] at h <;> try rw [c2] <;> conv => whnf
    all_goals exact ⟨[], rfl, h⟩
  rw [if_neg (of_decide_eq_false c1)] at h
  refine branch_i (fun c2 => ?_) (fun c2 => ?_) <;> try rw [c2] <;> conv => whnf
  focus
    rw [if_pos (of_decide_eq_true c2)] at h
    refine branch_i (fun c3 => ?_) (fun c3 => ?_) <;> rw [c3] at h <;> try rw [c3] <;> conv => whnf
    rotate_left
    focus exact ⟨[], rfl, h⟩
    refine branch_i (fun c4 => ?_) (fun c4 => ?_) <;> rw [c4] at h <;> try rw [c4] <;> conv => whnf
    all_goals exact ⟨[], rfl, h⟩
  rw [if_neg (of_decide_eq_false c2)] at h
  refine branch_i (fun c3 => ?_) (fun c3 => ?_) <;> try rw [c3] <;> conv => whnf
  focus
    rw [if_pos (of_decide_eq_true c3)] at h
    exact ⟨[], rfl, h⟩
  rw [if_neg (of_decide_eq_false c3)] at h
  refine branch_i (fun c4 => ?_) (fun c4 => ?_) <;> try rw [c4] <;> conv => whnf
  focus
    rw [if_pos (of_decide_eq_true c4)] at h
    refine .pure (utf8_spec ht ⟨rfl, ?_⟩)
    conv => whnf
    cases c5 : u8 v.t <;> rw [c5] at h <;> conv => whnf
    focus exact ⟨[], rfl, h⟩
    refine branch_i (fun c6 => ?_) (fun c6 => ?_) <;> rw [c6] at h <;> try rw [c6] <;> conv => whnf
    all_goals exact ⟨[], rfl, h⟩
  rw [if_neg (of_decide_eq_false c4)] at h
  refine branch_i (fun c5 => ?_) (fun c5 => ?_) <;> try rw [c5] <;> conv => whnf
  focus
    rw [if_pos (of_decide_eq_true c5)] at h
    refine branch_i (fun c6 => ?_) (fun c6 => ?_) <;> rw [c6] at h <;> try rw [c6] <;> conv => whnf
    all_goals exact ⟨[], rfl, h⟩
  rw [if_neg (of_decide_eq_false c5)] at h
  exact ⟨[], rfl, h⟩

theorem val_eq (d e : Val) : (decide (d.k = e.k) && (decide (d.n = e.n) && (decide (d.t = e.t) && true))) = decide (d = e) := by
  cases d; cases e
  simp [Val.mk.injEq]

theorem ms0_row (z id : Nat) : VSub .nils (.ms z id 0 0 false) := VSub.ms0 z id 0 false

end Go.Proofs.YtocjhaahifpnbaaDoorPg

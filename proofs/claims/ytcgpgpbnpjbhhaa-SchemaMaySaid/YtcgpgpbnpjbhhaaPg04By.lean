/- A function's body, walked. -/
import Derived.Test.YtcgpgpbnpjbhhaaPg04T
namespace Go.Proofs.YtcgpgpbnpjbhhaaPg
open Go Go.RowKit

theorem by_body {f : FuncId} {fn : Func} (hf : Try.prog.funcs[f]? = some fn) (k : Nat) {args : List V} {H : List O} {Q : V → List O → Prop} (hb : fn.body = some (fn.body.getD .skip)) (hl : args.length ≤ fn.ntmps)
    (h : abody (cx fn.ntmps k) fn (fn.body.getD .skip) args H Q) : ACall Try.prog f k args H Q :=
  acall_intro (cx_ok fn.ntmps k) hf hb rfl rfl hl h

abbrev fI (n : Int) : V := .int .i64 n

end Go.Proofs.YtcgpgpbnpjbhhaaPg

/- The facts of the translation that the evaluator asks for. -/
import Derived.Test.YtijabmpcicddbaaDoorTt
import Derived.Test.YtijabmpcicddbaaDoorVe31
namespace Go.Proofs.YtijabmpcicddbaaDoor
open Go.Ve
def bor : List Nat := [15, 16, 17, 18, 19, 21, 32, 33, 38, 42, 59, 62, 77, 79, 95]
def trims : List Nat := [95]
def opts : Opts := { bor := has bor, trim := has trims, phr := true }
theorem ttOk : TT Tryd.prog tt := tt_ok (l := ttl) (by kernel_rfl)
theorem namesOk : namesB Tryd.prog.funcs.toList = true := by kernel_rfl
theorem mixed : Tryd.prog.follows .mixedOrders = true := by kernel_rfl
theorem laid : laidOutB Tryd.prog = true := by kernel_rfl
theorem eqlOk : (eql.all (eqTop Tryd.prog tt 8)) = true := by kernel_rfl
theorem eqOk : EqOk Tryd.prog tt (has eql) := eq_ok ttOk (n := 8) (fun t ht => List.all_eq_true.1 eqlOk t (has_iff.1 ht)) (by decide)
end Go.Proofs.YtijabmpcicddbaaDoor

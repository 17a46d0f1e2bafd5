/- The facts of the translation that the evaluator asks for. -/
import Derived.Test.YtijabmpcicddbaaTt
import Derived.Test.YtijabmpcicddbaaVe31
namespace Go.Proofs.Ytijabmpcicddbaa
open Go.Ve
def bor : List Nat := [20, 23, 40, 41, 69, 78]
def trims : List Nat := [20, 23, 40, 41, 55, 69, 78]
def opts : Opts := { bor := has bor, trim := has trims, phr := true }
theorem ttOk : TT Try.prog tt := tt_ok (l := ttl) (by kernel_rfl)
theorem namesOk : namesB Try.prog.funcs.toList = true := by kernel_rfl
theorem mixed : Try.prog.follows .mixedOrders = true := by kernel_rfl
theorem laid : laidOutB Try.prog = true := by kernel_rfl
theorem eqlOk : (eql.all (eqTop Try.prog tt 8)) = true := by kernel_rfl
theorem eqOk : EqOk Try.prog tt (has eql) := eq_ok ttOk (n := 8) (fun t ht => List.all_eq_true.1 eqlOk t (has_iff.1 ht)) (by decide)
end Go.Proofs.Ytijabmpcicddbaa

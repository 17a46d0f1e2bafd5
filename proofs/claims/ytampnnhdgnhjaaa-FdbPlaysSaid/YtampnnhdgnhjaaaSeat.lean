/- The facts of the translation that the evaluator asks for. -/
import Derived.Test.YtampnnhdgnhjaaaTt
import Derived.Test.YtampnnhdgnhjaaaVe31
namespace Go.Proofs.Ytampnnhdgnhjaaa
open Go.Ve
def bor : List Nat := [23, 26, 29, 31, 33, 34, 36, 66, 72, 73, 74, 75]
def trims : List Nat := [23, 26, 29, 31, 33, 34, 36, 66, 72, 73, 74, 75, 84, 86]
def opts : Opts := { bor := has bor, trim := has trims, phr := true }
theorem ttOk : TT Try.prog tt := tt_ok (l := ttl) (by kernel_rfl)
theorem namesOk : namesB Try.prog.funcs.toList = true := by kernel_rfl
theorem mixed : Try.prog.follows .mixedOrders = true := by kernel_rfl
theorem laid : laidOutB Try.prog = true := by kernel_rfl
theorem eqlOk : (eql.all (eqTop Try.prog tt 8)) = true := by kernel_rfl
theorem eqOk : EqOk Try.prog tt (has eql) := eq_ok ttOk (n := 8) (fun t ht => List.all_eq_true.1 eqlOk t (has_iff.1 ht)) (by decide)
end Go.Proofs.Ytampnnhdgnhjaaa

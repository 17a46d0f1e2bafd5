/- FdbNone: what the code comes to answers true. -/
import Derived.Test.YtampnnhdgnhjaaaFdbNoneU
set_option linter.unusedVariables false
set_option linter.unusedSimpArgs false
namespace Go.Proofs.Ytampnnhdgnhjaaa.FdbNone
open Go.Ve
theorem main {α : Type} (a_1 : Int) (a_2 : Int) (a_3 : Int) (a_4 : Int) (a_5 : Int) (a_6 : Bool) (a_7 : Nat) (a_8 : Nat → Nat → PV) (a_9 : Bool) (a_10 : Nat) (a_11 : Nat → Nat → PV) (h_1 : PvOk (.val (.int .i64 a_1))) (h_2 : PvOk (.val (.int .i64 a_2))) (h_3 : PvOk (.val (.int .i64 a_3))) (h_4 : PvOk (.val (.int .i64 a_4))) (h_5 : PvOk (.val (.int .u64 a_5))) (h_6 : PvOk (.sl a_6 (.int .i64 .nil) 1 a_7 a_8)) (k_6 : RowK (.int .i64 .nil) a_7 a_8) (h_9 : PvOk (.sl a_9 (.int .u64 (.int .i64 (.int .i64 .nil))) 3 a_10 a_11)) (k_9 : RowK (.int .u64 (.int .i64 (.int .i64 .nil))) a_10 a_11) (k0 : Option α) : law18_FdbNone a_1 a_2 a_3 a_4 a_5 a_6 a_7 a_8 a_9 a_10 a_11 k0 = k0 := by
  unfold law18_FdbNone law18_FdbNone_T law18_fair law18_fair_T
  generalize (decide (((lenOf (e1 a_1 a_2 a_3 a_4 a_5 a_6 a_7 a_8 a_9 a_10 a_11 0 5) : Nat) : Int) > 30)) = b
  generalize (decide (((lenOf (e1 a_1 a_2 a_3 a_4 a_5 a_6 a_7 a_8 a_9 a_10 a_11 0 6) : Nat) : Int) > 40)) = c
  cases b <;> cases c <;> rfl
end Go.Proofs.Ytampnnhdgnhjaaa.FdbNone

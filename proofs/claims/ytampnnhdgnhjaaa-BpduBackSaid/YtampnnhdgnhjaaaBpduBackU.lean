/- BpduBack: the code of the law and of all that it calls, told by functions over numbers and rows. WRITTEN BY gen.py. -/
import Derived.Test.YtampnnhdgnhjaaaSeat
set_option linter.unusedVariables false
namespace Go.Proofs.Ytampnnhdgnhjaaa.BpduBack
open Go.Ve
set_option maxRecDepth 100000
theorem wakes_eq (k : AV → List AObj → Option Out) : runS tt (has eql) Try.prog.funcs 100000 [] [] (has bor) 40 16 [] [] k = k (.b true) [] := by kernel_rfl
theorem yes16_ok : SumOk Try.prog 16 yes := SumOk.yes (runS_ok ttOk eqOk mixed (names_ok namesOk) sums_nil hooks_nil (has bor) 40) wakes_eq
/- weirgate/bpdu.Good -/
def bpdu_Good_T {α : Type}  (a_1 : Int) (a_2 : Int) (a_3 : Int) (a_4 : Int) (a_5 : Int) (a_6 : Int) (a_7 : Bool) (a_8 : Bool) (a_9 : Bool) (a_10 : Bool) (a_11 : Bool) (k0 : Bool → Option α) : Option α := bif decide (a_5 ≥ 0) then
  bif decide (a_5 ≤ 65535) then
   bif decide (a_4 ≥ 0) then
    bif decide (a_4 ≤ 65535) then
     bif decide (a_6 ≥ 1) then
      k0 (decide (a_6 ≤ 3))
     else k0 false
    else k0 false
   else k0 false
  else k0 false
 else k0 false
def bpdu_Good {α : Type} (a_1 : Int) (a_2 : Int) (a_3 : Int) (a_4 : Int) (a_5 : Int) (a_6 : Int) (a_7 : Bool) (a_8 : Bool) (a_9 : Bool) (a_10 : Bool) (a_11 : Bool) (k0 : Bool → Option α) : Option α := bpdu_Good_T  a_1 a_2 a_3 a_4 a_5 a_6 a_7 a_8 a_9 a_10 a_11 k0
def bpdu_Good_S  : List (Nat × Sm) := [(16, yes)]
def bpdu_Good_B  : Hooks := []
theorem bpdu_Good_eq  (a_1 : Int) (a_2 : Int) (a_3 : Int) (a_4 : Int) (a_5 : Int) (a_6 : Int) (a_7 : Bool) (a_8 : Bool) (a_9 : Bool) (a_10 : Bool) (a_11 : Bool) (k : FK) : runS tt (has eql) Try.prog.funcs 1152921504606846976 (bpdu_Good_S ) (bpdu_Good_B ) (has bor) 40 21 [.v (.agg [.pv (.val (.int .u64 a_1)), .pv (.val (.int .u32 a_2)), .pv (.val (.int .u64 a_3)), .pv (.val (.int .i64 a_4)), .pv (.val (.int .i64 a_5)), .pv (.val (.int .i64 a_6)), .pv (.val (.bool a_7)), .pv (.val (.bool a_8)), .pv (.val (.bool a_9)), .pv (.val (.bool a_10)), .pv (.val (.bool a_11))])] [] k = bpdu_Good_T  a_1 a_2 a_3 a_4 a_5 a_6 a_7 a_8 a_9 a_10 a_11 (fun r0 => k (.v (.c (.pv (.val (.bool r0))))) []) := by kernel_rfl
def bpdu_Good_p : PAr := ⟨[.v (.agg [.pv (.int .u64 .h), .pv (.int .u32 .h), .pv (.int .u64 .h), .pv (.int .i64 .h), .pv (.int .i64 .h), .pv (.int .i64 .h), .pv (.bool .h), .pv (.bool .h), .pv (.bool .h), .pv (.bool .h), .pv (.bool .h)])], []⟩
def bpdu_Good_F (h : List Hole) (k : FK) : Option Out := bpdu_Good (gI h 0) (gI h 1) (gI h 2) (gI h 3) (gI h 4) (gI h 5) (gB h 6) (gB h 7) (gB h 8) (gB h 9) (gB h 10) (fun r0 => k (.v (.c (.pv (.val (.bool r0))))) [])
theorem bpdu_Good_at (h : List Hole) : CallAt Try.prog 21 (arFill bpdu_Good_p h).1 (arFill bpdu_Good_p h).2 (bpdu_Good_F h) := by
  have e : arFill bpdu_Good_p h = ([.v (.agg [.pv (.val (.int .u64 (gI h 0))), .pv (.val (.int .u32 (gI h 1))), .pv (.val (.int .u64 (gI h 2))), .pv (.val (.int .i64 (gI h 3))), .pv (.val (.int .i64 (gI h 4))), .pv (.val (.int .i64 (gI h 5))), .pv (.val (.bool (gB h 6))), .pv (.val (.bool (gB h 7))), .pv (.val (.bool (gB h 8))), .pv (.val (.bool (gB h 9))), .pv (.val (.bool (gB h 10)))])], []) := by kernel_rfl
  rw [e]; exact callAt_of (runS_ok ttOk eqOk mixed (names_ok namesOk) (S := bpdu_Good_S ) (sums_cons yes16_ok (sums_nil)) (B := bpdu_Good_B ) (hooks_nil) (has bor) 40) fun k => bpdu_Good_eq  _ _ _ _ _ _ _ _ _ _ _ k
/- weirgate/mac.Group -/
def mac_Group_T {α : Type}  (a_1 : Int) (k0 : Bool → Option α) : Option α := bif ((shrI .u64 a_1 48) == 0) then
  k0 ((bits .and .u64 (shrI .u64 a_1 40) 1) == 1)
 else k0 false
def mac_Group {α : Type} (a_1 : Int) (k0 : Bool → Option α) : Option α := mac_Group_T  a_1 k0
def mac_Group_S  : List (Nat × Sm) := [(16, yes)]
def mac_Group_B  : Hooks := []
theorem mac_Group_eq  (a_1 : Int) (k : FK) : runS tt (has eql) Try.prog.funcs 1152921504606846976 (mac_Group_S ) (mac_Group_B ) (has bor) 40 56 [.v (.c (.pv (.val (.int .u64 a_1))))] [] k = mac_Group_T  a_1 (fun r0 => k (.v (.c (.pv (.val (.bool r0))))) []) := by kernel_rfl
def mac_Group_p : PAr := ⟨[.v (.c (.pv (.int .u64 .h)))], []⟩
def mac_Group_F (h : List Hole) (k : FK) : Option Out := mac_Group (gI h 0) (fun r0 => k (.v (.c (.pv (.val (.bool r0))))) [])
theorem mac_Group_at (h : List Hole) : CallAt Try.prog 56 (arFill mac_Group_p h).1 (arFill mac_Group_p h).2 (mac_Group_F h) := by
  have e : arFill mac_Group_p h = ([.v (.c (.pv (.val (.int .u64 (gI h 0)))))], []) := by kernel_rfl
  rw [e]; exact callAt_of (runS_ok ttOk eqOk mixed (names_ok namesOk) (S := mac_Group_S ) (sums_cons yes16_ok (sums_nil)) (B := mac_Group_B ) (hooks_nil) (has bor) 40) fun k => mac_Group_eq  _ k
def e1 : Nat → Nat → PV := rowOf 1 [.val (.int .u8 66), .val (.int .u8 66), .val (.int .u8 3), .val (.int .u8 0), .val (.int .u8 0), .val (.int .u8 2), .val (.int .u8 2)]
/- weirgate/bpdu.flag -/
def bpdu_flag_T {α : Type}  (a_1 : Bool) (k0 : Int → Option α) : Option α := bif a_1 then
  k0 1
 else k0 0
def bpdu_flag {α : Type} (a_1 : Bool) (k0 : Int → Option α) : Option α := bpdu_flag_T  a_1 k0
def bpdu_flag_S  : List (Nat × Sm) := [(16, yes)]
def bpdu_flag_B  : Hooks := []
theorem bpdu_flag_eq  (a_1 : Bool) (k : FK) : runS tt (has eql) Try.prog.funcs 1152921504606846976 (bpdu_flag_S ) (bpdu_flag_B ) (has bor) 40 96 [.v (.c (.pv (.val (.bool a_1)))), .v (.c (.pv (.val (.int .u8 1))))] [] k = bpdu_flag_T  a_1 (fun r0 => k (.v (.c (.pv (.val (.int .u8 r0))))) []) := by kernel_rfl
def bpdu_flag_p : PAr := ⟨[.v (.c (.pv (.bool .h))), .v (.c (.pv (.int .u8 (.l 1))))], []⟩
def bpdu_flag_F (h : List Hole) (k : FK) : Option Out := bpdu_flag (gB h 0) (fun r0 => k (.v (.c (.pv (.val (.int .u8 r0))))) [])
theorem bpdu_flag_at (h : List Hole) : CallAt Try.prog 96 (arFill bpdu_flag_p h).1 (arFill bpdu_flag_p h).2 (bpdu_flag_F h) := by
  have e : arFill bpdu_flag_p h = ([.v (.c (.pv (.val (.bool (gB h 0))))), .v (.c (.pv (.val (.int .u8 1))))], []) := by kernel_rfl
  rw [e]; exact callAt_of (runS_ok ttOk eqOk mixed (names_ok namesOk) (S := bpdu_flag_S ) (sums_cons yes16_ok (sums_nil)) (B := bpdu_flag_B ) (hooks_nil) (has bor) 40) fun k => bpdu_flag_eq  _ k
/- weirgate/bpdu.flag -/
def bpdu_flag_v1_T {α : Type}  (a_1 : Bool) (k0 : Int → Option α) : Option α := bif a_1 then
  k0 2
 else k0 0
def bpdu_flag_v1 {α : Type} (a_1 : Bool) (k0 : Int → Option α) : Option α := bpdu_flag_v1_T  a_1 k0
def bpdu_flag_v1_S  : List (Nat × Sm) := [(16, yes)]
def bpdu_flag_v1_B  : Hooks := []
theorem bpdu_flag_v1_eq  (a_1 : Bool) (k : FK) : runS tt (has eql) Try.prog.funcs 1152921504606846976 (bpdu_flag_v1_S ) (bpdu_flag_v1_B ) (has bor) 40 96 [.v (.c (.pv (.val (.bool a_1)))), .v (.c (.pv (.val (.int .u8 2))))] [] k = bpdu_flag_v1_T  a_1 (fun r0 => k (.v (.c (.pv (.val (.int .u8 r0))))) []) := by kernel_rfl
def bpdu_flag_v1_p : PAr := ⟨[.v (.c (.pv (.bool .h))), .v (.c (.pv (.int .u8 (.l 2))))], []⟩
def bpdu_flag_v1_F (h : List Hole) (k : FK) : Option Out := bpdu_flag_v1 (gB h 0) (fun r0 => k (.v (.c (.pv (.val (.int .u8 r0))))) [])
theorem bpdu_flag_v1_at (h : List Hole) : CallAt Try.prog 96 (arFill bpdu_flag_v1_p h).1 (arFill bpdu_flag_v1_p h).2 (bpdu_flag_v1_F h) := by
  have e : arFill bpdu_flag_v1_p h = ([.v (.c (.pv (.val (.bool (gB h 0))))), .v (.c (.pv (.val (.int .u8 2))))], []) := by kernel_rfl
  rw [e]; exact callAt_of (runS_ok ttOk eqOk mixed (names_ok namesOk) (S := bpdu_flag_v1_S ) (sums_cons yes16_ok (sums_nil)) (B := bpdu_flag_v1_B ) (hooks_nil) (has bor) 40) fun k => bpdu_flag_v1_eq  _ k
/- weirgate/bpdu.flag -/
def bpdu_flag_v2_T {α : Type}  (a_1 : Bool) (k0 : Int → Option α) : Option α := bif a_1 then
  k0 16
 else k0 0
def bpdu_flag_v2 {α : Type} (a_1 : Bool) (k0 : Int → Option α) : Option α := bpdu_flag_v2_T  a_1 k0
def bpdu_flag_v2_S  : List (Nat × Sm) := [(16, yes)]
def bpdu_flag_v2_B  : Hooks := []
theorem bpdu_flag_v2_eq  (a_1 : Bool) (k : FK) : runS tt (has eql) Try.prog.funcs 1152921504606846976 (bpdu_flag_v2_S ) (bpdu_flag_v2_B ) (has bor) 40 96 [.v (.c (.pv (.val (.bool a_1)))), .v (.c (.pv (.val (.int .u8 16))))] [] k = bpdu_flag_v2_T  a_1 (fun r0 => k (.v (.c (.pv (.val (.int .u8 r0))))) []) := by kernel_rfl
def bpdu_flag_v2_p : PAr := ⟨[.v (.c (.pv (.bool .h))), .v (.c (.pv (.int .u8 (.l 16))))], []⟩
def bpdu_flag_v2_F (h : List Hole) (k : FK) : Option Out := bpdu_flag_v2 (gB h 0) (fun r0 => k (.v (.c (.pv (.val (.int .u8 r0))))) [])
theorem bpdu_flag_v2_at (h : List Hole) : CallAt Try.prog 96 (arFill bpdu_flag_v2_p h).1 (arFill bpdu_flag_v2_p h).2 (bpdu_flag_v2_F h) := by
  have e : arFill bpdu_flag_v2_p h = ([.v (.c (.pv (.val (.bool (gB h 0))))), .v (.c (.pv (.val (.int .u8 16))))], []) := by kernel_rfl
  rw [e]; exact callAt_of (runS_ok ttOk eqOk mixed (names_ok namesOk) (S := bpdu_flag_v2_S ) (sums_cons yes16_ok (sums_nil)) (B := bpdu_flag_v2_B ) (hooks_nil) (has bor) 40) fun k => bpdu_flag_v2_eq  _ k
def e2 (x0 : Int) (x1 : Int) (x2 : Int) (x3 : Int) : Int := bits .or .u8 (bits .or .u8 (bits .or .u8 x0 x1) (shlI .u8 (IntKind.u8.wrap x2) 2)) x3
/- weirgate/bpdu.flag -/
def bpdu_flag_v3_T {α : Type}  (a_1 : Bool) (k0 : Int → Option α) : Option α := bif a_1 then
  k0 32
 else k0 0
def bpdu_flag_v3 {α : Type} (a_1 : Bool) (k0 : Int → Option α) : Option α := bpdu_flag_v3_T  a_1 k0
def bpdu_flag_v3_S  : List (Nat × Sm) := [(16, yes)]
def bpdu_flag_v3_B  : Hooks := []
theorem bpdu_flag_v3_eq  (a_1 : Bool) (k : FK) : runS tt (has eql) Try.prog.funcs 1152921504606846976 (bpdu_flag_v3_S ) (bpdu_flag_v3_B ) (has bor) 40 96 [.v (.c (.pv (.val (.bool a_1)))), .v (.c (.pv (.val (.int .u8 32))))] [] k = bpdu_flag_v3_T  a_1 (fun r0 => k (.v (.c (.pv (.val (.int .u8 r0))))) []) := by kernel_rfl
def bpdu_flag_v3_p : PAr := ⟨[.v (.c (.pv (.bool .h))), .v (.c (.pv (.int .u8 (.l 32))))], []⟩
def bpdu_flag_v3_F (h : List Hole) (k : FK) : Option Out := bpdu_flag_v3 (gB h 0) (fun r0 => k (.v (.c (.pv (.val (.int .u8 r0))))) [])
theorem bpdu_flag_v3_at (h : List Hole) : CallAt Try.prog 96 (arFill bpdu_flag_v3_p h).1 (arFill bpdu_flag_v3_p h).2 (bpdu_flag_v3_F h) := by
  have e : arFill bpdu_flag_v3_p h = ([.v (.c (.pv (.val (.bool (gB h 0))))), .v (.c (.pv (.val (.int .u8 32))))], []) := by kernel_rfl
  rw [e]; exact callAt_of (runS_ok ttOk eqOk mixed (names_ok namesOk) (S := bpdu_flag_v3_S ) (sums_cons yes16_ok (sums_nil)) (B := bpdu_flag_v3_B ) (hooks_nil) (has bor) 40) fun k => bpdu_flag_v3_eq  _ k
/- weirgate/bpdu.flag -/
def bpdu_flag_v4_T {α : Type}  (a_1 : Bool) (k0 : Int → Option α) : Option α := bif a_1 then
  k0 64
 else k0 0
def bpdu_flag_v4 {α : Type} (a_1 : Bool) (k0 : Int → Option α) : Option α := bpdu_flag_v4_T  a_1 k0
def bpdu_flag_v4_S  : List (Nat × Sm) := [(16, yes)]
def bpdu_flag_v4_B  : Hooks := []
theorem bpdu_flag_v4_eq  (a_1 : Bool) (k : FK) : runS tt (has eql) Try.prog.funcs 1152921504606846976 (bpdu_flag_v4_S ) (bpdu_flag_v4_B ) (has bor) 40 96 [.v (.c (.pv (.val (.bool a_1)))), .v (.c (.pv (.val (.int .u8 64))))] [] k = bpdu_flag_v4_T  a_1 (fun r0 => k (.v (.c (.pv (.val (.int .u8 r0))))) []) := by kernel_rfl
def bpdu_flag_v4_p : PAr := ⟨[.v (.c (.pv (.bool .h))), .v (.c (.pv (.int .u8 (.l 64))))], []⟩
def bpdu_flag_v4_F (h : List Hole) (k : FK) : Option Out := bpdu_flag_v4 (gB h 0) (fun r0 => k (.v (.c (.pv (.val (.int .u8 r0))))) [])
theorem bpdu_flag_v4_at (h : List Hole) : CallAt Try.prog 96 (arFill bpdu_flag_v4_p h).1 (arFill bpdu_flag_v4_p h).2 (bpdu_flag_v4_F h) := by
  have e : arFill bpdu_flag_v4_p h = ([.v (.c (.pv (.val (.bool (gB h 0))))), .v (.c (.pv (.val (.int .u8 64))))], []) := by kernel_rfl
  rw [e]; exact callAt_of (runS_ok ttOk eqOk mixed (names_ok namesOk) (S := bpdu_flag_v4_S ) (sums_cons yes16_ok (sums_nil)) (B := bpdu_flag_v4_B ) (hooks_nil) (has bor) 40) fun k => bpdu_flag_v4_eq  _ k
def e3 (x0 : Int) (x1 : Int) (x2 : Int) (x3 : Int) (x4 : Int) (x5 : Int) : Int := shrI .u64 (IntKind.u64.wrap (bits .or .u8 (bits .or .u8 (e2 x0 x1 x2 x3) x4) x5)) 0
def e4 (x0 : Int) (x1 : Int) (x2 : Int) (x3 : Int) (x4 : Int) (x5 : Int) : Nat → Nat → PV := catf 7 (e1) (rowOf 1 [.val (.int .u8 (IntKind.u8.wrap (e3 x0 x1 x2 x3 x4 x5)))])
def e5 (x0 : Nat → Nat → PV) (x1 : Int) : Nat → Nat → PV := catf 9 (catf 8 (x0) (rowOf 1 [.val (.int .u8 (IntKind.u8.wrap (shrI .u64 x1 56)))])) (rowOf 1 [.val (.int .u8 (IntKind.u8.wrap (shrI .u64 x1 48)))])
def e6 (x0 : Nat → Nat → PV) (x1 : Int) : Nat → Nat → PV := catf 11 (catf 10 (e5 x0 x1) (rowOf 1 [.val (.int .u8 (IntKind.u8.wrap (shrI .u64 x1 40)))])) (rowOf 1 [.val (.int .u8 (IntKind.u8.wrap (shrI .u64 x1 32)))])
def e7 (x0 : Nat → Nat → PV) (x1 : Int) : Nat → Nat → PV := catf 13 (catf 12 (e6 x0 x1) (rowOf 1 [.val (.int .u8 (IntKind.u8.wrap (shrI .u64 x1 24)))])) (rowOf 1 [.val (.int .u8 (IntKind.u8.wrap (shrI .u64 x1 16)))])
def e8 (x0 : Nat → Nat → PV) (x1 : Int) : Nat → Nat → PV := catf 15 (catf 14 (e7 x0 x1) (rowOf 1 [.val (.int .u8 (IntKind.u8.wrap (shrI .u64 x1 8)))])) (rowOf 1 [.val (.int .u8 (IntKind.u8.wrap (shrI .u64 x1 0)))])
def e9 (x0 : Int) (x1 : Int) (x2 : Int) (x3 : Int) (x4 : Int) (x5 : Int) (x6 : Int) : Nat → Nat → PV := catf 8 (e4 x0 x1 x2 x3 x4 x5) (rowOf 1 [.val (.int .u8 (IntKind.u8.wrap (shrI .u64 x6 56)))])
def e10 (x0 : Int) (x1 : Int) (x2 : Int) (x3 : Int) (x4 : Int) (x5 : Int) (x6 : Int) : Nat → Nat → PV := catf 9 (e9 x0 x1 x2 x3 x4 x5 x6) (rowOf 1 [.val (.int .u8 (IntKind.u8.wrap (shrI .u64 x6 48)))])
def e11 (x0 : Int) (x1 : Int) (x2 : Int) (x3 : Int) (x4 : Int) (x5 : Int) (x6 : Int) : Nat → Nat → PV := catf 10 (e10 x0 x1 x2 x3 x4 x5 x6) (rowOf 1 [.val (.int .u8 (IntKind.u8.wrap (shrI .u64 x6 40)))])
def e12 (x0 : Int) (x1 : Int) (x2 : Int) (x3 : Int) (x4 : Int) (x5 : Int) (x6 : Int) : Nat → Nat → PV := catf 11 (e11 x0 x1 x2 x3 x4 x5 x6) (rowOf 1 [.val (.int .u8 (IntKind.u8.wrap (shrI .u64 x6 32)))])
def e13 (x0 : Int) (x1 : Int) (x2 : Int) (x3 : Int) (x4 : Int) (x5 : Int) (x6 : Int) : Nat → Nat → PV := catf 12 (e12 x0 x1 x2 x3 x4 x5 x6) (rowOf 1 [.val (.int .u8 (IntKind.u8.wrap (shrI .u64 x6 24)))])
def e14 (x0 : Int) (x1 : Int) (x2 : Int) (x3 : Int) (x4 : Int) (x5 : Int) (x6 : Int) : Nat → Nat → PV := catf 13 (e13 x0 x1 x2 x3 x4 x5 x6) (rowOf 1 [.val (.int .u8 (IntKind.u8.wrap (shrI .u64 x6 16)))])
def e15 (x0 : Int) (x1 : Int) (x2 : Int) (x3 : Int) (x4 : Int) (x5 : Int) (x6 : Int) : Nat → Nat → PV := catf 14 (e14 x0 x1 x2 x3 x4 x5 x6) (rowOf 1 [.val (.int .u8 (IntKind.u8.wrap (shrI .u64 x6 8)))])
def e16 (x0 : Int) (x1 : Int) (x2 : Int) (x3 : Int) (x4 : Int) (x5 : Int) (x6 : Int) : Nat → Nat → PV := catf 15 (e15 x0 x1 x2 x3 x4 x5 x6) (rowOf 1 [.val (.int .u8 (IntKind.u8.wrap (shrI .u64 x6 0)))])
def e17 (x0 : Nat → Nat → PV) (x1 : Int) : Nat → Nat → PV := catf 17 (catf 16 (x0) (rowOf 1 [.val (.int .u8 (IntKind.u8.wrap (shrI .u64 x1 24)))])) (rowOf 1 [.val (.int .u8 (IntKind.u8.wrap (shrI .u64 x1 16)))])
def e18 (x0 : Nat → Nat → PV) (x1 : Int) : Nat → Nat → PV := catf 19 (catf 18 (e17 x0 x1) (rowOf 1 [.val (.int .u8 (IntKind.u8.wrap (shrI .u64 x1 8)))])) (rowOf 1 [.val (.int .u8 (IntKind.u8.wrap (shrI .u64 x1 0)))])
def e19 (x0 : Int) (x1 : Int) (x2 : Int) (x3 : Int) (x4 : Int) (x5 : Int) (x6 : Int) (x7 : Int) : Nat → Nat → PV := catf 16 (e16 x0 x1 x2 x3 x4 x5 x6) (rowOf 1 [.val (.int .u8 (IntKind.u8.wrap (shrI .u64 (IntKind.u64.wrap x7) 24)))])
def e20 (x0 : Int) (x1 : Int) (x2 : Int) (x3 : Int) (x4 : Int) (x5 : Int) (x6 : Int) (x7 : Int) : Nat → Nat → PV := catf 17 (e19 x0 x1 x2 x3 x4 x5 x6 x7) (rowOf 1 [.val (.int .u8 (IntKind.u8.wrap (shrI .u64 (IntKind.u64.wrap x7) 16)))])
def e21 (x0 : Int) (x1 : Int) (x2 : Int) (x3 : Int) (x4 : Int) (x5 : Int) (x6 : Int) (x7 : Int) : Nat → Nat → PV := catf 18 (e20 x0 x1 x2 x3 x4 x5 x6 x7) (rowOf 1 [.val (.int .u8 (IntKind.u8.wrap (shrI .u64 (IntKind.u64.wrap x7) 8)))])
def e22 (x0 : Int) (x1 : Int) (x2 : Int) (x3 : Int) (x4 : Int) (x5 : Int) (x6 : Int) (x7 : Int) : Nat → Nat → PV := catf 19 (e21 x0 x1 x2 x3 x4 x5 x6 x7) (rowOf 1 [.val (.int .u8 (IntKind.u8.wrap (shrI .u64 (IntKind.u64.wrap x7) 0)))])
def e23 (x0 : Nat → Nat → PV) (x1 : Int) : Nat → Nat → PV := catf 21 (catf 20 (x0) (rowOf 1 [.val (.int .u8 (IntKind.u8.wrap (shrI .u64 x1 56)))])) (rowOf 1 [.val (.int .u8 (IntKind.u8.wrap (shrI .u64 x1 48)))])
def e24 (x0 : Nat → Nat → PV) (x1 : Int) : Nat → Nat → PV := catf 23 (catf 22 (e23 x0 x1) (rowOf 1 [.val (.int .u8 (IntKind.u8.wrap (shrI .u64 x1 40)))])) (rowOf 1 [.val (.int .u8 (IntKind.u8.wrap (shrI .u64 x1 32)))])
def e25 (x0 : Nat → Nat → PV) (x1 : Int) : Nat → Nat → PV := catf 25 (catf 24 (e24 x0 x1) (rowOf 1 [.val (.int .u8 (IntKind.u8.wrap (shrI .u64 x1 24)))])) (rowOf 1 [.val (.int .u8 (IntKind.u8.wrap (shrI .u64 x1 16)))])
def e26 (x0 : Nat → Nat → PV) (x1 : Int) : Nat → Nat → PV := catf 27 (catf 26 (e25 x0 x1) (rowOf 1 [.val (.int .u8 (IntKind.u8.wrap (shrI .u64 x1 8)))])) (rowOf 1 [.val (.int .u8 (IntKind.u8.wrap (shrI .u64 x1 0)))])
def e27 (x0 : Int) (x1 : Int) (x2 : Int) (x3 : Int) (x4 : Int) (x5 : Int) (x6 : Int) (x7 : Int) (x8 : Int) : Nat → Nat → PV := catf 20 (e22 x0 x1 x2 x3 x4 x5 x6 x7) (rowOf 1 [.val (.int .u8 (IntKind.u8.wrap (shrI .u64 x8 56)))])
def e28 (x0 : Int) (x1 : Int) (x2 : Int) (x3 : Int) (x4 : Int) (x5 : Int) (x6 : Int) (x7 : Int) (x8 : Int) : Nat → Nat → PV := catf 21 (e27 x0 x1 x2 x3 x4 x5 x6 x7 x8) (rowOf 1 [.val (.int .u8 (IntKind.u8.wrap (shrI .u64 x8 48)))])
def e29 (x0 : Int) (x1 : Int) (x2 : Int) (x3 : Int) (x4 : Int) (x5 : Int) (x6 : Int) (x7 : Int) (x8 : Int) : Nat → Nat → PV := catf 22 (e28 x0 x1 x2 x3 x4 x5 x6 x7 x8) (rowOf 1 [.val (.int .u8 (IntKind.u8.wrap (shrI .u64 x8 40)))])
def e30 (x0 : Int) (x1 : Int) (x2 : Int) (x3 : Int) (x4 : Int) (x5 : Int) (x6 : Int) (x7 : Int) (x8 : Int) : Nat → Nat → PV := catf 23 (e29 x0 x1 x2 x3 x4 x5 x6 x7 x8) (rowOf 1 [.val (.int .u8 (IntKind.u8.wrap (shrI .u64 x8 32)))])
def e31 (x0 : Int) (x1 : Int) (x2 : Int) (x3 : Int) (x4 : Int) (x5 : Int) (x6 : Int) (x7 : Int) (x8 : Int) : Nat → Nat → PV := catf 24 (e30 x0 x1 x2 x3 x4 x5 x6 x7 x8) (rowOf 1 [.val (.int .u8 (IntKind.u8.wrap (shrI .u64 x8 24)))])
def e32 (x0 : Int) (x1 : Int) (x2 : Int) (x3 : Int) (x4 : Int) (x5 : Int) (x6 : Int) (x7 : Int) (x8 : Int) : Nat → Nat → PV := catf 25 (e31 x0 x1 x2 x3 x4 x5 x6 x7 x8) (rowOf 1 [.val (.int .u8 (IntKind.u8.wrap (shrI .u64 x8 16)))])
def e33 (x0 : Int) (x1 : Int) (x2 : Int) (x3 : Int) (x4 : Int) (x5 : Int) (x6 : Int) (x7 : Int) (x8 : Int) : Nat → Nat → PV := catf 26 (e32 x0 x1 x2 x3 x4 x5 x6 x7 x8) (rowOf 1 [.val (.int .u8 (IntKind.u8.wrap (shrI .u64 x8 8)))])
def e34 (x0 : Int) (x1 : Int) (x2 : Int) (x3 : Int) (x4 : Int) (x5 : Int) (x6 : Int) (x7 : Int) (x8 : Int) : Nat → Nat → PV := catf 27 (e33 x0 x1 x2 x3 x4 x5 x6 x7 x8) (rowOf 1 [.val (.int .u8 (IntKind.u8.wrap (shrI .u64 x8 0)))])
def e35 (x0 : Nat → Nat → PV) (x1 : Int) : Nat → Nat → PV := catf 29 (catf 28 (x0) (rowOf 1 [.val (.int .u8 (IntKind.u8.wrap (shrI .u64 x1 8)))])) (rowOf 1 [.val (.int .u8 (IntKind.u8.wrap (shrI .u64 x1 0)))])
def e36 (x0 : Int) (x1 : Int) (x2 : Int) (x3 : Int) (x4 : Int) (x5 : Int) (x6 : Int) (x7 : Int) (x8 : Int) (x9 : Int) : Nat → Nat → PV := catf 28 (e34 x0 x1 x2 x3 x4 x5 x6 x7 x8) (rowOf 1 [.val (.int .u8 (IntKind.u8.wrap (shrI .u64 (IntKind.u64.wrap x9) 8)))])
def e37 (x0 : Int) (x1 : Int) (x2 : Int) (x3 : Int) (x4 : Int) (x5 : Int) (x6 : Int) (x7 : Int) (x8 : Int) (x9 : Int) : Nat → Nat → PV := catf 29 (e36 x0 x1 x2 x3 x4 x5 x6 x7 x8 x9) (rowOf 1 [.val (.int .u8 (IntKind.u8.wrap (shrI .u64 (IntKind.u64.wrap x9) 0)))])
def e38 (x0 : Nat → Nat → PV) (x1 : Int) : Nat → Nat → PV := catf 31 (catf 30 (x0) (rowOf 1 [.val (.int .u8 (IntKind.u8.wrap (shrI .u64 x1 8)))])) (rowOf 1 [.val (.int .u8 (IntKind.u8.wrap (shrI .u64 x1 0)))])
def e39 (x0 : Int) (x1 : Int) (x2 : Int) (x3 : Int) (x4 : Int) (x5 : Int) (x6 : Int) (x7 : Int) (x8 : Int) (x9 : Int) (x10 : Int) : Nat → Nat → PV := catf 30 (e37 x0 x1 x2 x3 x4 x5 x6 x7 x8 x9) (rowOf 1 [.val (.int .u8 (IntKind.u8.wrap (shrI .u64 (IntKind.u64.wrap x10) 8)))])
def e40 (x0 : Int) (x1 : Int) (x2 : Int) (x3 : Int) (x4 : Int) (x5 : Int) (x6 : Int) (x7 : Int) (x8 : Int) (x9 : Int) (x10 : Int) : Nat → Nat → PV := catf 31 (e39 x0 x1 x2 x3 x4 x5 x6 x7 x8 x9 x10) (rowOf 1 [.val (.int .u8 (IntKind.u8.wrap (shrI .u64 (IntKind.u64.wrap x10) 0)))])
def e41 (x0 : Int) (x1 : Int) (x2 : Int) (x3 : Int) (x4 : Int) (x5 : Int) (x6 : Int) (x7 : Int) (x8 : Int) (x9 : Int) (x10 : Int) : Nat → Nat → PV := catf 32 (e40 x0 x1 x2 x3 x4 x5 x6 x7 x8 x9 x10) (rowOf 1 [.val (.int .u8 0)])
def e42 (x0 : Int) (x1 : Int) (x2 : Int) (x3 : Int) (x4 : Int) (x5 : Int) (x6 : Int) (x7 : Int) (x8 : Int) (x9 : Int) (x10 : Int) : Nat → Nat → PV := catf 33 (e41 x0 x1 x2 x3 x4 x5 x6 x7 x8 x9 x10) (rowOf 1 [.val (.int .u8 0)])
def e43 (x0 : Int) (x1 : Int) (x2 : Int) (x3 : Int) (x4 : Int) (x5 : Int) (x6 : Int) (x7 : Int) (x8 : Int) (x9 : Int) (x10 : Int) : Nat → Nat → PV := catf 34 (e42 x0 x1 x2 x3 x4 x5 x6 x7 x8 x9 x10) (rowOf 1 [.val (.int .u8 0)])
def e44 (x0 : Int) (x1 : Int) (x2 : Int) (x3 : Int) (x4 : Int) (x5 : Int) (x6 : Int) (x7 : Int) (x8 : Int) (x9 : Int) (x10 : Int) : Nat → Nat → PV := catf 35 (e43 x0 x1 x2 x3 x4 x5 x6 x7 x8 x9 x10) (rowOf 1 [.val (.int .u8 0)])
def e45 (x0 : Int) (x1 : Int) (x2 : Int) (x3 : Int) (x4 : Int) (x5 : Int) (x6 : Int) (x7 : Int) (x8 : Int) (x9 : Int) (x10 : Int) : Nat → Nat → PV := catf 36 (e44 x0 x1 x2 x3 x4 x5 x6 x7 x8 x9 x10) (rowOf 1 [.val (.int .u8 0)])
def e46 (x0 : Int) (x1 : Int) (x2 : Int) (x3 : Int) (x4 : Int) (x5 : Int) (x6 : Int) (x7 : Int) (x8 : Int) (x9 : Int) (x10 : Int) : Nat → Nat → PV := catf 37 (e45 x0 x1 x2 x3 x4 x5 x6 x7 x8 x9 x10) (rowOf 1 [.val (.int .u8 0)])
def e47 (x0 : Int) (x1 : Int) (x2 : Int) (x3 : Int) (x4 : Int) (x5 : Int) (x6 : Int) (x7 : Int) (x8 : Int) (x9 : Int) (x10 : Int) : Nat → Nat → PV := catf 38 (e46 x0 x1 x2 x3 x4 x5 x6 x7 x8 x9 x10) (rowOf 1 [.val (.int .u8 0)])
/- weirgate/bpdu.Frame -/
def bpdu_Frame_T {α : Type} (Gbpdu_Good : Int → Int → Int → Int → Int → Int → Bool → Bool → Bool → Bool → Bool → (Bool → Option α) → Option α) (Gmac_Group : Int → (Bool → Option α) → Option α) (Gbpdu_flag : Bool → (Int → Option α) → Option α) (Gbpdu_flag_v1 : Bool → (Int → Option α) → Option α) (Gbpdu_flag_v2 : Bool → (Int → Option α) → Option α) (Gbpdu_flag_v3 : Bool → (Int → Option α) → Option α) (Gbpdu_flag_v4 : Bool → (Int → Option α) → Option α) (a_1 : Int) (a_2 : Int) (a_3 : Int) (a_4 : Int) (a_5 : Int) (a_6 : Int) (a_7 : Int) (a_8 : Bool) (a_9 : Bool) (a_10 : Bool) (a_11 : Bool) (a_12 : Bool) (k0 : Option α) (k1 : Int → (Nat → Nat → PV) → Option α) : Option α := Gbpdu_Good a_2 a_3 a_4 a_5 a_6 a_7 a_8 a_9 a_10 a_11 a_12
  (fun r_13 => bif !r_13 then
   k0
  else bif !((shrI .u64 a_1 48) == 0) then
   k0
  else Gmac_Group a_1
   (fun r_14 => bif r_14 then
    k0
   else Gbpdu_flag a_12
    (fun r_15 => Gbpdu_flag_v1 a_8
     (fun r_16 => Gbpdu_flag_v2 a_10
      (fun r_17 => Gbpdu_flag_v3 a_11
       (fun r_18 => Gbpdu_flag_v4 a_9
        (fun r_19 => k1 a_1 (e47 r_15 r_16 a_7 r_17 r_18 r_19 a_2 a_3 a_4 a_5 a_6))))))))
def bpdu_Frame {α : Type} (a_1 : Int) (a_2 : Int) (a_3 : Int) (a_4 : Int) (a_5 : Int) (a_6 : Int) (a_7 : Int) (a_8 : Bool) (a_9 : Bool) (a_10 : Bool) (a_11 : Bool) (a_12 : Bool) (k0 : Option α) (k1 : Int → (Nat → Nat → PV) → Option α) : Option α := bpdu_Frame_T bpdu_Good mac_Group bpdu_flag bpdu_flag_v1 bpdu_flag_v2 bpdu_flag_v3 bpdu_flag_v4 a_1 a_2 a_3 a_4 a_5 a_6 a_7 a_8 a_9 a_10 a_11 a_12 k0 k1
def bpdu_Frame_S (Gbpdu_Good : Int → Int → Int → Int → Int → Int → Bool → Bool → Bool → Bool → Bool → (Bool → Option Out) → Option Out) (Gmac_Group : Int → (Bool → Option Out) → Option Out) (Gbpdu_flag : Bool → (Int → Option Out) → Option Out) (Gbpdu_flag_v1 : Bool → (Int → Option Out) → Option Out) (Gbpdu_flag_v2 : Bool → (Int → Option Out) → Option Out) (Gbpdu_flag_v3 : Bool → (Int → Option Out) → Option Out) (Gbpdu_flag_v4 : Bool → (Int → Option Out) → Option Out) : List (Nat × Sm) := [(16, yes), (21, smOf [(bpdu_Good_p, fun h k => Gbpdu_Good (gI h 0) (gI h 1) (gI h 2) (gI h 3) (gI h 4) (gI h 5) (gB h 6) (gB h 7) (gB h 8) (gB h 9) (gB h 10) (fun r0 => k (.v (.c (.pv (.val (.bool r0))))) []))]), (56, smOf [(mac_Group_p, fun h k => Gmac_Group (gI h 0) (fun r0 => k (.v (.c (.pv (.val (.bool r0))))) []))]), (96, smOf [(bpdu_flag_p, fun h k => Gbpdu_flag (gB h 0) (fun r0 => k (.v (.c (.pv (.val (.int .u8 r0))))) [])), (bpdu_flag_v1_p, fun h k => Gbpdu_flag_v1 (gB h 0) (fun r0 => k (.v (.c (.pv (.val (.int .u8 r0))))) [])), (bpdu_flag_v2_p, fun h k => Gbpdu_flag_v2 (gB h 0) (fun r0 => k (.v (.c (.pv (.val (.int .u8 r0))))) [])), (bpdu_flag_v3_p, fun h k => Gbpdu_flag_v3 (gB h 0) (fun r0 => k (.v (.c (.pv (.val (.int .u8 r0))))) [])), (bpdu_flag_v4_p, fun h k => Gbpdu_flag_v4 (gB h 0) (fun r0 => k (.v (.c (.pv (.val (.int .u8 r0))))) []))])]
def bpdu_Frame_B (Gbpdu_Good : Int → Int → Int → Int → Int → Int → Bool → Bool → Bool → Bool → Bool → (Bool → Option Out) → Option Out) (Gmac_Group : Int → (Bool → Option Out) → Option Out) (Gbpdu_flag : Bool → (Int → Option Out) → Option Out) (Gbpdu_flag_v1 : Bool → (Int → Option Out) → Option Out) (Gbpdu_flag_v2 : Bool → (Int → Option Out) → Option Out) (Gbpdu_flag_v3 : Bool → (Int → Option Out) → Option Out) (Gbpdu_flag_v4 : Bool → (Int → Option Out) → Option Out) : Hooks := []
theorem bpdu_Frame_eq (Gbpdu_Good : Int → Int → Int → Int → Int → Int → Bool → Bool → Bool → Bool → Bool → (Bool → Option Out) → Option Out) (Gmac_Group : Int → (Bool → Option Out) → Option Out) (Gbpdu_flag : Bool → (Int → Option Out) → Option Out) (Gbpdu_flag_v1 : Bool → (Int → Option Out) → Option Out) (Gbpdu_flag_v2 : Bool → (Int → Option Out) → Option Out) (Gbpdu_flag_v3 : Bool → (Int → Option Out) → Option Out) (Gbpdu_flag_v4 : Bool → (Int → Option Out) → Option Out) (a_1 : Int) (a_2 : Int) (a_3 : Int) (a_4 : Int) (a_5 : Int) (a_6 : Int) (a_7 : Int) (a_8 : Bool) (a_9 : Bool) (a_10 : Bool) (a_11 : Bool) (a_12 : Bool) (k : FK) : runS tt (has eql) Try.prog.funcs 1152921504606846976 (bpdu_Frame_S Gbpdu_Good Gmac_Group Gbpdu_flag Gbpdu_flag_v1 Gbpdu_flag_v2 Gbpdu_flag_v3 Gbpdu_flag_v4) (bpdu_Frame_B Gbpdu_Good Gmac_Group Gbpdu_flag Gbpdu_flag_v1 Gbpdu_flag_v2 Gbpdu_flag_v3 Gbpdu_flag_v4) (has bor) 40 17 [.v (.c (.pv (.val (.int .u64 a_1)))), .v (.agg [.pv (.val (.int .u64 a_2)), .pv (.val (.int .u32 a_3)), .pv (.val (.int .u64 a_4)), .pv (.val (.int .i64 a_5)), .pv (.val (.int .i64 a_6)), .pv (.val (.int .i64 a_7)), .pv (.val (.bool a_8)), .pv (.val (.bool a_9)), .pv (.val (.bool a_10)), .pv (.val (.bool a_11)), .pv (.val (.bool a_12))])] [] k = bpdu_Frame_T Gbpdu_Good Gmac_Group Gbpdu_flag Gbpdu_flag_v1 Gbpdu_flag_v2 Gbpdu_flag_v3 Gbpdu_flag_v4 a_1 a_2 a_3 a_4 a_5 a_6 a_7 a_8 a_9 a_10 a_11 a_12 (k (.tup [.agg [.pv (.val (.int .u64 0)), .pv (.val (.int .u64 0)), .pv (.val (.bool false)), .pv (.val (.int .i64 0)), .pv (.val (.int .i64 0)), .pv (.val (.int .i64 0)), .pv (.val (.slice none 0 0))], .c (.pv (.val (.int .i64 11)))]) []) (fun r0 r1 => k (.tup [.agg [.pv (.val (.int .u64 1652522221568)), .pv (.val (.int .u64 r0)), .pv (.val (.bool false)), .pv (.val (.int .i64 0)), .pv (.val (.int .i64 0)), .pv (.val (.int .i64 39)), .own 0], .c (.pv (.val (.int .i64 0)))]) [.parr false (.int .u8 .nil) 1 39 (r1)]) := by kernel_rfl
def bpdu_Frame_p : PAr := ⟨[.v (.c (.pv (.int .u64 .h))), .v (.agg [.pv (.int .u64 .h), .pv (.int .u32 .h), .pv (.int .u64 .h), .pv (.int .i64 .h), .pv (.int .i64 .h), .pv (.int .i64 .h), .pv (.bool .h), .pv (.bool .h), .pv (.bool .h), .pv (.bool .h), .pv (.bool .h)])], []⟩
def bpdu_Frame_F (h : List Hole) (k : FK) : Option Out := bpdu_Frame (gI h 0) (gI h 1) (gI h 2) (gI h 3) (gI h 4) (gI h 5) (gI h 6) (gB h 7) (gB h 8) (gB h 9) (gB h 10) (gB h 11) (k (.tup [.agg [.pv (.val (.int .u64 0)), .pv (.val (.int .u64 0)), .pv (.val (.bool false)), .pv (.val (.int .i64 0)), .pv (.val (.int .i64 0)), .pv (.val (.int .i64 0)), .pv (.val (.slice none 0 0))], .c (.pv (.val (.int .i64 11)))]) []) (fun r0 r1 => k (.tup [.agg [.pv (.val (.int .u64 1652522221568)), .pv (.val (.int .u64 r0)), .pv (.val (.bool false)), .pv (.val (.int .i64 0)), .pv (.val (.int .i64 0)), .pv (.val (.int .i64 39)), .own 0], .c (.pv (.val (.int .i64 0)))]) [.parr false (.int .u8 .nil) 1 39 (r1)])
theorem bpdu_Frame_at (h : List Hole) : CallAt Try.prog 17 (arFill bpdu_Frame_p h).1 (arFill bpdu_Frame_p h).2 (bpdu_Frame_F h) := by
  have e : arFill bpdu_Frame_p h = ([.v (.c (.pv (.val (.int .u64 (gI h 0))))), .v (.agg [.pv (.val (.int .u64 (gI h 1))), .pv (.val (.int .u32 (gI h 2))), .pv (.val (.int .u64 (gI h 3))), .pv (.val (.int .i64 (gI h 4))), .pv (.val (.int .i64 (gI h 5))), .pv (.val (.int .i64 (gI h 6))), .pv (.val (.bool (gB h 7))), .pv (.val (.bool (gB h 8))), .pv (.val (.bool (gB h 9))), .pv (.val (.bool (gB h 10))), .pv (.val (.bool (gB h 11)))])], []) := by kernel_rfl
  rw [e]; exact callAt_of (runS_ok ttOk eqOk mixed (names_ok namesOk) (S := bpdu_Frame_S bpdu_Good mac_Group bpdu_flag bpdu_flag_v1 bpdu_flag_v2 bpdu_flag_v3 bpdu_flag_v4) (sums_cons yes16_ok (sums_cons (smOf_ok (alts_cons bpdu_Good_at alts_nil)) (sums_cons (smOf_ok (alts_cons mac_Group_at alts_nil)) (sums_cons (smOf_ok (alts_cons bpdu_flag_at (alts_cons bpdu_flag_v1_at (alts_cons bpdu_flag_v2_at (alts_cons bpdu_flag_v3_at (alts_cons bpdu_flag_v4_at alts_nil)))))) (sums_nil))))) (B := bpdu_Frame_B bpdu_Good mac_Group bpdu_flag bpdu_flag_v1 bpdu_flag_v2 bpdu_flag_v3 bpdu_flag_v4) (hooks_nil) (has bor) 40) fun k => bpdu_Frame_eq bpdu_Good mac_Group bpdu_flag bpdu_flag_v1 bpdu_flag_v2 bpdu_flag_v3 bpdu_flag_v4 _ _ _ _ _ _ _ _ _ _ _ _ k
/- weirgate/frame.Good -/
def frame_Good_T {α : Type} (Gmac_Group : Int → (Bool → Option α) → Option α) (a_1 : Int) (a_2 : Nat → Nat → PV) (k0 : (Nat → Nat → PV) → Option α) (k1 : (Nat → Nat → PV) → Option α) : Option α := bif !((shrI .u64 a_1 48) == 0) then
  k0 a_2
 else Gmac_Group a_1
  (fun r_3 => bif r_3 then
   k0 a_2
  else k1 a_2)
def frame_Good {α : Type} (a_1 : Int) (a_2 : Nat → Nat → PV) (k0 : (Nat → Nat → PV) → Option α) (k1 : (Nat → Nat → PV) → Option α) : Option α := frame_Good_T mac_Group a_1 a_2 k0 k1
def frame_Good_S (Gmac_Group : Int → (Bool → Option Out) → Option Out) : List (Nat × Sm) := [(16, yes), (56, smOf [(mac_Group_p, fun h k => Gmac_Group (gI h 0) (fun r0 => k (.v (.c (.pv (.val (.bool r0))))) []))])]
def frame_Good_B (Gmac_Group : Int → (Bool → Option Out) → Option Out) : Hooks := []
theorem frame_Good_eq (Gmac_Group : Int → (Bool → Option Out) → Option Out) (a_1 : Int) (a_2 : Nat → Nat → PV) (k : FK) : runS tt (has eql) Try.prog.funcs 1152921504606846976 (frame_Good_S Gmac_Group) (frame_Good_B Gmac_Group) (has bor) 40 31 [.v (.agg [.pv (.val (.int .u64 1652522221568)), .pv (.val (.int .u64 a_1)), .pv (.val (.bool false)), .pv (.val (.int .i64 0)), .pv (.val (.int .i64 0)), .pv (.val (.int .i64 39)), .own 0])] [.parr false (.int .u8 .nil) 1 39 (a_2)] k = frame_Good_T Gmac_Group a_1 a_2 (fun r0 => k (.v (.c (.pv (.val (.bool false))))) [.parr false (.int .u8 .nil) 1 39 (r0)]) (fun r0 => k (.v (.c (.pv (.val (.bool true))))) [.parr false (.int .u8 .nil) 1 39 (r0)]) := by kernel_rfl
def frame_Good_p : PAr := ⟨[.v (.agg [.pv (.int .u64 (.l 1652522221568)), .pv (.int .u64 .h), .pv (.bool (.l false)), .pv (.int .i64 (.l 0)), .pv (.int .i64 (.l 0)), .pv (.int .i64 (.l 39)), .own 0])], [.parr (.l false) (.int .u8 .nil) 1 (.l 39)]⟩
def frame_Good_F (h : List Hole) (k : FK) : Option Out := frame_Good (gI h 0) (gF h 1) (fun r0 => k (.v (.c (.pv (.val (.bool false))))) [.parr false (.int .u8 .nil) 1 39 (r0)]) (fun r0 => k (.v (.c (.pv (.val (.bool true))))) [.parr false (.int .u8 .nil) 1 39 (r0)])
theorem frame_Good_at (h : List Hole) : CallAt Try.prog 31 (arFill frame_Good_p h).1 (arFill frame_Good_p h).2 (frame_Good_F h) := by
  have e : arFill frame_Good_p h = ([.v (.agg [.pv (.val (.int .u64 1652522221568)), .pv (.val (.int .u64 (gI h 0))), .pv (.val (.bool false)), .pv (.val (.int .i64 0)), .pv (.val (.int .i64 0)), .pv (.val (.int .i64 39)), .own 0])], [.parr false (.int .u8 .nil) 1 39 ((gF h 1))]) := by kernel_rfl
  rw [e]; exact callAt_of (runS_ok ttOk eqOk mixed (names_ok namesOk) (S := frame_Good_S mac_Group) (sums_cons yes16_ok (sums_cons (smOf_ok (alts_cons mac_Group_at alts_nil)) (sums_nil))) (B := frame_Good_B mac_Group) (hooks_nil) (has bor) 40) fun k => frame_Good_eq mac_Group _ _ k
def e48 (x0 : Int) (x1 : Nat → Nat → PV) : Nat → Nat → PV := rowOf 1 [.sl false (.int .u8 .nil) 1 6 (fun j c => pvAt [.pv (.val (.int .u8 1)), .pv (.val (.int .u8 128)), .pv (.val (.int .u8 194)), .pv (.val (.int .u8 0)), .pv (.val (.int .u8 0)), .pv (.val (.int .u8 0))] (0 + j * 1 + c)), .sl false (.int .u8 .nil) 1 6 (fun j c => pvAt [.pv (.val (.int .u8 (IntKind.u8.wrap (shrI .u64 x0 40)))), .pv (.val (.int .u8 (IntKind.u8.wrap (shrI .u64 x0 32)))), .pv (.val (.int .u8 (IntKind.u8.wrap (shrI .u64 x0 24)))), .pv (.val (.int .u8 (IntKind.u8.wrap (shrI .u64 x0 16)))), .pv (.val (.int .u8 (IntKind.u8.wrap (shrI .u64 x0 8)))), .pv (.val (.int .u8 (IntKind.u8.wrap (shrI .u64 x0 0))))] (0 + j * 1 + c)), .val (.slice none 0 0), .sl false (.int .u8 .nil) 1 2 (rowOf 1 [.val (.int .u8 0), .val (.int .u8 39)]), .sl false (.int .u8 .nil) 1 39 (x1)]
def e49 (x0 : Nat → Nat → PV) : Int := IntKind.i64.wrap ((IntKind.i64.wrap (0 + ((lenOf (x0 0 0) : Nat) : Int))) + ((lenOf (x0 1 0) : Nat) : Int))
def e50 (x0 : Nat → Nat → PV) : Int := IntKind.i64.wrap ((IntKind.i64.wrap ((e49 x0) + ((lenOf (x0 2 0) : Nat) : Int))) + ((lenOf (x0 3 0) : Nat) : Int))
/- slices.Grow[[]byte,byte] -/
def slices_Grow_byte_byte_T {α : Type}  (a_1 : Int) (k0 : Option α) (k1 : Nat → (Nat → Nat → PV) → Option α) : Option α := bif decide (a_1 < 0) then
  none /- op makeInterface -/
 else bif decide ((IntKind.i64.wrap (a_1 - 0)) > 0) then
  bif (decide (0 ≤ IntKind.i64.wrap (a_1 - 0)) && decide (IntKind.i64.wrap (a_1 - 0) ≤ 4611686018427387904)) then
   bif Nat.beq ((IntKind.i64.wrap (a_1 - 0)).toNat) 0 then
    k0
   else bif Nat.ble (((IntKind.i64.wrap (a_1 - 0)).toNat) * 1) bound then
    bif inb 0 (((IntKind.i64.wrap (a_1 - 0)).toNat) + 1) then
     k1 ((IntKind.i64.wrap (a_1 - 0)).toNat) (fun _ j => .val (([.int .u8 0] : List Value).getD j undef))
    else none /- test -/
   else none /- test -/
  else none /- test -/
 else k0
def slices_Grow_byte_byte {α : Type} (a_1 : Int) (k0 : Option α) (k1 : Nat → (Nat → Nat → PV) → Option α) : Option α := slices_Grow_byte_byte_T  a_1 k0 k1
def slices_Grow_byte_byte_S  : List (Nat × Sm) := [(16, yes)]
def slices_Grow_byte_byte_B  : Hooks := []
theorem slices_Grow_byte_byte_eq  (a_1 : Int) (k : FK) : runS tt (has eql) Try.prog.funcs 1152921504606846976 (slices_Grow_byte_byte_S ) (slices_Grow_byte_byte_B ) (has bor) 40 107 [.v (.c (.pv (.val (.slice none 0 0)))), .v (.c (.pv (.val (.int .i64 a_1))))] [] k = slices_Grow_byte_byte_T  a_1 (k (.v (.c (.pv (.val (.slice none 0 0))))) []) (fun r0 r1 => k (.v (.c (.pre 0 0))) [.parr false (.int .u8 .nil) 1 r0 (r1)]) := by kernel_rfl
def slices_Grow_byte_byte_p : PAr := ⟨[.v (.c (.pv (.nil))), .v (.c (.pv (.int .i64 .h)))], []⟩
def slices_Grow_byte_byte_F (h : List Hole) (k : FK) : Option Out := slices_Grow_byte_byte (gI h 0) (k (.v (.c (.pv (.val (.slice none 0 0))))) []) (fun r0 r1 => k (.v (.c (.pre 0 0))) [.parr false (.int .u8 .nil) 1 r0 (r1)])
theorem slices_Grow_byte_byte_at (h : List Hole) : CallAt Try.prog 107 (arFill slices_Grow_byte_byte_p h).1 (arFill slices_Grow_byte_byte_p h).2 (slices_Grow_byte_byte_F h) := by
  have e : arFill slices_Grow_byte_byte_p h = ([.v (.c (.pv (.val (.slice none 0 0)))), .v (.c (.pv (.val (.int .i64 (gI h 0)))))], []) := by kernel_rfl
  rw [e]; exact callAt_of (runS_ok ttOk eqOk mixed (names_ok namesOk) (S := slices_Grow_byte_byte_S ) (sums_cons yes16_ok (sums_nil)) (B := slices_Grow_byte_byte_B ) (hooks_nil) (has bor) 40) fun k => slices_Grow_byte_byte_eq  _ k
def e51 (x0 : Nat → Nat → PV) : Nat → Nat → PV := catf ((lenOf (x0 2 0)) + (lenOf (x0 3 0))) (catf (lenOf (x0 2 0)) (fnOf (x0 2 0)) (fnOf (x0 3 0))) (fnOf (x0 4 0))
def e52 (x0 : Nat → Nat → PV) : Nat → Nat → PV := catf ((lenOf (x0 1 0)) + (lenOf (x0 2 0))) (catf (lenOf (x0 1 0)) (fnOf (x0 1 0)) (fnOf (x0 2 0))) (fnOf (x0 3 0))
def e53 (x0 : Nat → Nat → PV) : Nat → Nat → PV := catf (((lenOf (x0 1 0)) + (lenOf (x0 2 0))) + (lenOf (x0 3 0))) (e52 x0) (fnOf (x0 4 0))
def e54 (x0 : Nat → Nat → PV) : Nat → Nat → PV := catf ((lenOf (x0 0 0)) + (lenOf (x0 1 0))) (catf (lenOf (x0 0 0)) (fnOf (x0 0 0)) (fnOf (x0 1 0))) (fnOf (x0 2 0))
def e55 (x0 : Nat → Nat → PV) : Nat → Nat → PV := catf (((lenOf (x0 0 0)) + (lenOf (x0 1 0))) + (lenOf (x0 2 0))) (e54 x0) (fnOf (x0 3 0))
def e56 (x0 : Nat → Nat → PV) : Nat → Nat → PV := catf ((((lenOf (x0 0 0)) + (lenOf (x0 1 0))) + (lenOf (x0 2 0))) + (lenOf (x0 3 0))) (e55 x0) (fnOf (x0 4 0))
def e57 (x0 : Nat → Nat → PV) : Nat := ((((lenOf (x0 0 0)) + (lenOf (x0 1 0))) + (lenOf (x0 2 0))) + (lenOf (x0 3 0))) + (lenOf (x0 4 0))
def e58 (x0 : Nat → Nat → PV) (x1 : Nat → Nat → PV) : Nat → Nat → PV := catf ((0 + (lenOf (x0 0 0))) + (lenOf (x0 1 0))) (catf (0 + (lenOf (x0 0 0))) (catf 0 (x1) (fnOf (x0 0 0))) (fnOf (x0 1 0))) (fnOf (x0 2 0))
def e59 (x0 : Nat → Nat → PV) (x1 : Nat → Nat → PV) : Nat → Nat → PV := catf (((0 + (lenOf (x0 0 0))) + (lenOf (x0 1 0))) + (lenOf (x0 2 0))) (e58 x0 x1) (fnOf (x0 3 0))
def e60 (x0 : Nat → Nat → PV) (x1 : Nat → Nat → PV) : Nat → Nat → PV := catf ((((0 + (lenOf (x0 0 0))) + (lenOf (x0 1 0))) + (lenOf (x0 2 0))) + (lenOf (x0 3 0))) (e59 x0 x1) (fnOf (x0 4 0))
def e61 (x0 : Nat → Nat → PV) : Nat := ((((0 + (lenOf (x0 0 0))) + (lenOf (x0 1 0))) + (lenOf (x0 2 0))) + (lenOf (x0 3 0))) + (lenOf (x0 4 0))
/- slices.Concat[[]byte,byte] -/
def slices_Concat_byte_byte_T {α : Type} (Gslices_Grow_byte_byte : Int → (Option α) → (Nat → (Nat → Nat → PV) → Option α) → Option α) (a_1 : Nat → Nat → PV) (k0 : (Nat → Nat → PV) → Option α) (k1 : (Nat → Nat → PV) → Nat → (Nat → Nat → PV) → Option α) : Option α := bif decide ((IntKind.i64.wrap (0 + ((lenOf (a_1 0 0) : Nat) : Int))) < 0) then
  none /- op makeInterface -/
 else bif decide ((e49 a_1) < 0) then
  none /- op makeInterface -/
 else bif decide ((IntKind.i64.wrap ((e49 a_1) + ((lenOf (a_1 2 0) : Nat) : Int))) < 0) then
  none /- op makeInterface -/
 else bif decide ((e50 a_1) < 0) then
  none /- op makeInterface -/
 else bif decide ((IntKind.i64.wrap ((e50 a_1) + ((lenOf (a_1 4 0) : Nat) : Int))) < 0) then
  none /- op makeInterface -/
 else Gslices_Grow_byte_byte (IntKind.i64.wrap ((e50 a_1) + ((lenOf (a_1 4 0) : Nat) : Int)))
  (bif Nat.beq (lenOf (a_1 0 0)) 0 then
   bif Nat.beq (lenOf (a_1 1 0)) 0 then
    bif Nat.beq (lenOf (a_1 2 0)) 0 then
     bif Nat.beq (lenOf (a_1 3 0)) 0 then
      bif Nat.beq (lenOf (a_1 4 0)) 0 then
       k0 a_1
      else bif Nat.ble ((lenOf (a_1 4 0)) * 1) bound then
       k1 a_1 (lenOf (a_1 4 0)) (fnOf (a_1 4 0))
      else none /- test -/
     else bif Nat.ble ((lenOf (a_1 3 0)) * 1) bound then
      bif Nat.ble (((lenOf (a_1 3 0)) + (lenOf (a_1 4 0))) * 1) bound then
       k1 a_1 ((lenOf (a_1 3 0)) + (lenOf (a_1 4 0))) (catf (lenOf (a_1 3 0)) (fnOf (a_1 3 0)) (fnOf (a_1 4 0)))
      else none /- test -/
     else none /- test -/
    else bif Nat.ble ((lenOf (a_1 2 0)) * 1) bound then
     bif Nat.ble (((lenOf (a_1 2 0)) + (lenOf (a_1 3 0))) * 1) bound then
      bif Nat.ble ((((lenOf (a_1 2 0)) + (lenOf (a_1 3 0))) + (lenOf (a_1 4 0))) * 1) bound then
       k1 a_1 (((lenOf (a_1 2 0)) + (lenOf (a_1 3 0))) + (lenOf (a_1 4 0))) (e51 a_1)
      else none /- test -/
     else none /- test -/
    else none /- test -/
   else bif Nat.ble ((lenOf (a_1 1 0)) * 1) bound then
    bif Nat.ble (((lenOf (a_1 1 0)) + (lenOf (a_1 2 0))) * 1) bound then
     bif Nat.ble ((((lenOf (a_1 1 0)) + (lenOf (a_1 2 0))) + (lenOf (a_1 3 0))) * 1) bound then
      bif Nat.ble (((((lenOf (a_1 1 0)) + (lenOf (a_1 2 0))) + (lenOf (a_1 3 0))) + (lenOf (a_1 4 0))) * 1) bound then
       k1 a_1 ((((lenOf (a_1 1 0)) + (lenOf (a_1 2 0))) + (lenOf (a_1 3 0))) + (lenOf (a_1 4 0))) (e53 a_1)
      else none /- test -/
     else none /- test -/
    else none /- test -/
   else none /- test -/
  else bif Nat.ble ((lenOf (a_1 0 0)) * 1) bound then
   bif Nat.ble (((lenOf (a_1 0 0)) + (lenOf (a_1 1 0))) * 1) bound then
    bif Nat.ble ((((lenOf (a_1 0 0)) + (lenOf (a_1 1 0))) + (lenOf (a_1 2 0))) * 1) bound then
     bif Nat.ble (((((lenOf (a_1 0 0)) + (lenOf (a_1 1 0))) + (lenOf (a_1 2 0))) + (lenOf (a_1 3 0))) * 1) bound then
      bif Nat.ble ((((((lenOf (a_1 0 0)) + (lenOf (a_1 1 0))) + (lenOf (a_1 2 0))) + (lenOf (a_1 3 0))) + (lenOf (a_1 4 0))) * 1) bound then
       k1 a_1 (e57 a_1) (e56 a_1)
      else none /- test -/
     else none /- test -/
    else none /- test -/
   else none /- test -/
  else none /- test -/)
  (fun r_2 r_3 => bif (Nat.ble 0 r_2 && Nat.ble ((0 + (lenOf (a_1 0 0))) * 1) bound) then
   bif Nat.ble (((0 + (lenOf (a_1 0 0))) + (lenOf (a_1 1 0))) * 1) bound then
    bif Nat.ble ((((0 + (lenOf (a_1 0 0))) + (lenOf (a_1 1 0))) + (lenOf (a_1 2 0))) * 1) bound then
     bif Nat.ble (((((0 + (lenOf (a_1 0 0))) + (lenOf (a_1 1 0))) + (lenOf (a_1 2 0))) + (lenOf (a_1 3 0))) * 1) bound then
      bif Nat.ble ((((((0 + (lenOf (a_1 0 0))) + (lenOf (a_1 1 0))) + (lenOf (a_1 2 0))) + (lenOf (a_1 3 0))) + (lenOf (a_1 4 0))) * 1) bound then
       k1 a_1 (e61 a_1) (e60 a_1 r_3)
      else none /- test -/
     else none /- test -/
    else none /- test -/
   else none /- test -/
  else none /- test -/)
def slices_Concat_byte_byte {α : Type} (a_1 : Nat → Nat → PV) (k0 : (Nat → Nat → PV) → Option α) (k1 : (Nat → Nat → PV) → Nat → (Nat → Nat → PV) → Option α) : Option α := slices_Concat_byte_byte_T slices_Grow_byte_byte a_1 k0 k1
def slices_Concat_byte_byte_S (Gslices_Grow_byte_byte : Int → (Option Out) → (Nat → (Nat → Nat → PV) → Option Out) → Option Out) : List (Nat × Sm) := [(16, yes), (107, smOf [(slices_Grow_byte_byte_p, fun h k => Gslices_Grow_byte_byte (gI h 0) (k (.v (.c (.pv (.val (.slice none 0 0))))) []) (fun r0 r1 => k (.v (.c (.pre 0 0))) [.parr false (.int .u8 .nil) 1 r0 (r1)]))])]
def slices_Concat_byte_byte_B (Gslices_Grow_byte_byte : Int → (Option Out) → (Nat → (Nat → Nat → PV) → Option Out) → Option Out) : Hooks := []
theorem slices_Concat_byte_byte_eq (Gslices_Grow_byte_byte : Int → (Option Out) → (Nat → (Nat → Nat → PV) → Option Out) → Option Out) (a_1 : Nat → Nat → PV) (k : FK) : runS tt (has eql) Try.prog.funcs 1152921504606846976 (slices_Concat_byte_byte_S Gslices_Grow_byte_byte) (slices_Concat_byte_byte_B Gslices_Grow_byte_byte) (has bor) 40 97 [.v (.c (.own 0))] [.parr false (.sl (.int .u8 .nil) 1 .nil) 1 5 (a_1)] k = slices_Concat_byte_byte_T Gslices_Grow_byte_byte a_1 (fun r0 => k (.v (.c (.pv (.val (.slice none 0 0))))) [.parr false (.sl (.int .u8 .nil) 1 .nil) 1 5 (r0)]) (fun r0 r1 r2 => k (.v (.c (.own 1))) [.parr false (.sl (.int .u8 .nil) 1 .nil) 1 5 (r0), .parr false (.int .u8 .nil) 1 r1 (r2)]) := by kernel_rfl
def slices_Concat_byte_byte_p : PAr := ⟨[.v (.c (.own 0))], [.parr (.l false) (.sl (.int .u8 .nil) 1 .nil) 1 (.l 5)]⟩
def slices_Concat_byte_byte_F (h : List Hole) (k : FK) : Option Out := slices_Concat_byte_byte (gF h 0) (fun r0 => k (.v (.c (.pv (.val (.slice none 0 0))))) [.parr false (.sl (.int .u8 .nil) 1 .nil) 1 5 (r0)]) (fun r0 r1 r2 => k (.v (.c (.own 1))) [.parr false (.sl (.int .u8 .nil) 1 .nil) 1 5 (r0), .parr false (.int .u8 .nil) 1 r1 (r2)])
theorem slices_Concat_byte_byte_at (h : List Hole) : CallAt Try.prog 97 (arFill slices_Concat_byte_byte_p h).1 (arFill slices_Concat_byte_byte_p h).2 (slices_Concat_byte_byte_F h) := by
  have e : arFill slices_Concat_byte_byte_p h = ([.v (.c (.own 0))], [.parr false (.sl (.int .u8 .nil) 1 .nil) 1 5 ((gF h 0))]) := by kernel_rfl
  rw [e]; exact callAt_of (runS_ok ttOk eqOk mixed (names_ok namesOk) (S := slices_Concat_byte_byte_S slices_Grow_byte_byte) (sums_cons yes16_ok (sums_cons (smOf_ok (alts_cons slices_Grow_byte_byte_at alts_nil)) (sums_nil))) (B := slices_Concat_byte_byte_B slices_Grow_byte_byte) (hooks_nil) (has bor) 40) fun k => slices_Concat_byte_byte_eq slices_Grow_byte_byte _ k
/- weirgate/frame.join -/
def frame_join_T {α : Type} (Gslices_Concat_byte_byte : (Nat → Nat → PV) → ((Nat → Nat → PV) → Option α) → ((Nat → Nat → PV) → Nat → (Nat → Nat → PV) → Option α) → Option α) (a_1 : Nat → Nat → PV) (k0 : (Nat → Nat → PV) → Option α) (k1 : (Nat → Nat → PV) → Nat → (Nat → Nat → PV) → Option α) : Option α := Gslices_Concat_byte_byte a_1
  (fun r_2 => k0 r_2)
  (fun r_2 r_3 r_4 => k1 r_2 r_3 r_4)
def frame_join {α : Type} (a_1 : Nat → Nat → PV) (k0 : (Nat → Nat → PV) → Option α) (k1 : (Nat → Nat → PV) → Nat → (Nat → Nat → PV) → Option α) : Option α := frame_join_T slices_Concat_byte_byte a_1 k0 k1
def frame_join_S (Gslices_Concat_byte_byte : (Nat → Nat → PV) → ((Nat → Nat → PV) → Option Out) → ((Nat → Nat → PV) → Nat → (Nat → Nat → PV) → Option Out) → Option Out) : List (Nat × Sm) := [(16, yes), (97, smOf [(slices_Concat_byte_byte_p, fun h k => Gslices_Concat_byte_byte (gF h 0) (fun r0 => k (.v (.c (.pv (.val (.slice none 0 0))))) [.parr false (.sl (.int .u8 .nil) 1 .nil) 1 5 (r0)]) (fun r0 r1 r2 => k (.v (.c (.own 1))) [.parr false (.sl (.int .u8 .nil) 1 .nil) 1 5 (r0), .parr false (.int .u8 .nil) 1 r1 (r2)]))])]
def frame_join_B (Gslices_Concat_byte_byte : (Nat → Nat → PV) → ((Nat → Nat → PV) → Option Out) → ((Nat → Nat → PV) → Nat → (Nat → Nat → PV) → Option Out) → Option Out) : Hooks := []
theorem frame_join_eq (Gslices_Concat_byte_byte : (Nat → Nat → PV) → ((Nat → Nat → PV) → Option Out) → ((Nat → Nat → PV) → Nat → (Nat → Nat → PV) → Option Out) → Option Out) (a_1 : Nat → Nat → PV) (k : FK) : runS tt (has eql) Try.prog.funcs 1152921504606846976 (frame_join_S Gslices_Concat_byte_byte) (frame_join_B Gslices_Concat_byte_byte) (has bor) 40 68 [.v (.c (.own 0))] [.parr false (.sl (.int .u8 .nil) 1 .nil) 1 5 (a_1)] k = frame_join_T Gslices_Concat_byte_byte a_1 (fun r0 => k (.v (.c (.pv (.val (.slice none 0 0))))) [.parr false (.sl (.int .u8 .nil) 1 .nil) 1 5 (r0)]) (fun r0 r1 r2 => k (.v (.c (.own 1))) [.parr false (.sl (.int .u8 .nil) 1 .nil) 1 5 (r0), .parr false (.int .u8 .nil) 1 r1 (r2)]) := by kernel_rfl
def frame_join_p : PAr := ⟨[.v (.c (.own 0))], [.parr (.l false) (.sl (.int .u8 .nil) 1 .nil) 1 (.l 5)]⟩
def frame_join_F (h : List Hole) (k : FK) : Option Out := frame_join (gF h 0) (fun r0 => k (.v (.c (.pv (.val (.slice none 0 0))))) [.parr false (.sl (.int .u8 .nil) 1 .nil) 1 5 (r0)]) (fun r0 r1 r2 => k (.v (.c (.own 1))) [.parr false (.sl (.int .u8 .nil) 1 .nil) 1 5 (r0), .parr false (.int .u8 .nil) 1 r1 (r2)])
theorem frame_join_at (h : List Hole) : CallAt Try.prog 68 (arFill frame_join_p h).1 (arFill frame_join_p h).2 (frame_join_F h) := by
  have e : arFill frame_join_p h = ([.v (.c (.own 0))], [.parr false (.sl (.int .u8 .nil) 1 .nil) 1 5 ((gF h 0))]) := by kernel_rfl
  rw [e]; exact callAt_of (runS_ok ttOk eqOk mixed (names_ok namesOk) (S := frame_join_S slices_Concat_byte_byte) (sums_cons yes16_ok (sums_cons (smOf_ok (alts_cons slices_Concat_byte_byte_at alts_nil)) (sums_nil))) (B := frame_join_B slices_Concat_byte_byte) (hooks_nil) (has bor) 40) fun k => frame_join_eq slices_Concat_byte_byte _ k
/- weirgate/frame.Encode -/
def frame_Encode_T {α : Type} (Gframe_Good : Int → (Nat → Nat → PV) → ((Nat → Nat → PV) → Option α) → ((Nat → Nat → PV) → Option α) → Option α) (Gframe_join : (Nat → Nat → PV) → ((Nat → Nat → PV) → Option α) → ((Nat → Nat → PV) → Nat → (Nat → Nat → PV) → Option α) → Option α) (a_1 : Int) (a_2 : Nat → Nat → PV) (k0 : (Nat → Nat → PV) → Option α) (k1 : (Nat → Nat → PV) → Option α) (k2 : (Nat → Nat → PV) → Nat → (Nat → Nat → PV) → Option α) : Option α := Gframe_Good a_1 a_2
  (fun r_3 => k0 r_3)
  (fun r_3 => Gframe_join (e48 a_1 r_3)
   (fun r_4 => k1 r_3)
   (fun r_4 r_5 r_6 => k2 r_3 r_5 r_6))
def frame_Encode {α : Type} (a_1 : Int) (a_2 : Nat → Nat → PV) (k0 : (Nat → Nat → PV) → Option α) (k1 : (Nat → Nat → PV) → Option α) (k2 : (Nat → Nat → PV) → Nat → (Nat → Nat → PV) → Option α) : Option α := frame_Encode_T frame_Good frame_join a_1 a_2 k0 k1 k2
def frame_Encode_S (Gframe_Good : Int → (Nat → Nat → PV) → ((Nat → Nat → PV) → Option Out) → ((Nat → Nat → PV) → Option Out) → Option Out) (Gframe_join : (Nat → Nat → PV) → ((Nat → Nat → PV) → Option Out) → ((Nat → Nat → PV) → Nat → (Nat → Nat → PV) → Option Out) → Option Out) : List (Nat × Sm) := [(16, yes), (31, smOf [(frame_Good_p, fun h k => Gframe_Good (gI h 0) (gF h 1) (fun r0 => k (.v (.c (.pv (.val (.bool false))))) [.parr false (.int .u8 .nil) 1 39 (r0)]) (fun r0 => k (.v (.c (.pv (.val (.bool true))))) [.parr false (.int .u8 .nil) 1 39 (r0)]))]), (68, smOf [(frame_join_p, fun h k => Gframe_join (gF h 0) (fun r0 => k (.v (.c (.pv (.val (.slice none 0 0))))) [.parr false (.sl (.int .u8 .nil) 1 .nil) 1 5 (r0)]) (fun r0 r1 r2 => k (.v (.c (.own 1))) [.parr false (.sl (.int .u8 .nil) 1 .nil) 1 5 (r0), .parr false (.int .u8 .nil) 1 r1 (r2)]))])]
def frame_Encode_B (Gframe_Good : Int → (Nat → Nat → PV) → ((Nat → Nat → PV) → Option Out) → ((Nat → Nat → PV) → Option Out) → Option Out) (Gframe_join : (Nat → Nat → PV) → ((Nat → Nat → PV) → Option Out) → ((Nat → Nat → PV) → Nat → (Nat → Nat → PV) → Option Out) → Option Out) : Hooks := []
theorem frame_Encode_eq (Gframe_Good : Int → (Nat → Nat → PV) → ((Nat → Nat → PV) → Option Out) → ((Nat → Nat → PV) → Option Out) → Option Out) (Gframe_join : (Nat → Nat → PV) → ((Nat → Nat → PV) → Option Out) → ((Nat → Nat → PV) → Nat → (Nat → Nat → PV) → Option Out) → Option Out) (a_1 : Int) (a_2 : Nat → Nat → PV) (k : FK) : runS tt (has eql) Try.prog.funcs 1152921504606846976 (frame_Encode_S Gframe_Good Gframe_join) (frame_Encode_B Gframe_Good Gframe_join) (has bor) 40 26 [.v (.agg [.pv (.val (.int .u64 1652522221568)), .pv (.val (.int .u64 a_1)), .pv (.val (.bool false)), .pv (.val (.int .i64 0)), .pv (.val (.int .i64 0)), .pv (.val (.int .i64 39)), .own 0])] [.parr false (.int .u8 .nil) 1 39 (a_2)] k = frame_Encode_T Gframe_Good Gframe_join a_1 a_2 (fun r0 => k (.tup [.c (.pv (.val (.slice none 0 0))), .c (.pv (.val (.int .i64 11)))]) [.parr false (.int .u8 .nil) 1 39 (r0)]) (fun r0 => k (.tup [.c (.pv (.val (.slice none 0 0))), .c (.pv (.val (.int .i64 0)))]) [.parr true (.int .u8 .nil) 1 39 (r0)]) (fun r0 r1 r2 => k (.tup [.c (.own 1), .c (.pv (.val (.int .i64 0)))]) [.parr true (.int .u8 .nil) 1 39 (r0), .parr false (.int .u8 .nil) 1 r1 (r2)]) := by kernel_rfl
def frame_Encode_p : PAr := ⟨[.v (.agg [.pv (.int .u64 (.l 1652522221568)), .pv (.int .u64 .h), .pv (.bool (.l false)), .pv (.int .i64 (.l 0)), .pv (.int .i64 (.l 0)), .pv (.int .i64 (.l 39)), .own 0])], [.parr (.l false) (.int .u8 .nil) 1 (.l 39)]⟩
def frame_Encode_F (h : List Hole) (k : FK) : Option Out := frame_Encode (gI h 0) (gF h 1) (fun r0 => k (.tup [.c (.pv (.val (.slice none 0 0))), .c (.pv (.val (.int .i64 11)))]) [.parr false (.int .u8 .nil) 1 39 (r0)]) (fun r0 => k (.tup [.c (.pv (.val (.slice none 0 0))), .c (.pv (.val (.int .i64 0)))]) [.parr true (.int .u8 .nil) 1 39 (r0)]) (fun r0 r1 r2 => k (.tup [.c (.own 1), .c (.pv (.val (.int .i64 0)))]) [.parr true (.int .u8 .nil) 1 39 (r0), .parr false (.int .u8 .nil) 1 r1 (r2)])
theorem frame_Encode_at (h : List Hole) : CallAt Try.prog 26 (arFill frame_Encode_p h).1 (arFill frame_Encode_p h).2 (frame_Encode_F h) := by
  have e : arFill frame_Encode_p h = ([.v (.agg [.pv (.val (.int .u64 1652522221568)), .pv (.val (.int .u64 (gI h 0))), .pv (.val (.bool false)), .pv (.val (.int .i64 0)), .pv (.val (.int .i64 0)), .pv (.val (.int .i64 39)), .own 0])], [.parr false (.int .u8 .nil) 1 39 ((gF h 1))]) := by kernel_rfl
  rw [e]; exact callAt_of (runS_ok ttOk eqOk mixed (names_ok namesOk) (S := frame_Encode_S frame_Good frame_join) (sums_cons yes16_ok (sums_cons (smOf_ok (alts_cons frame_Good_at alts_nil)) (sums_cons (smOf_ok (alts_cons frame_join_at alts_nil)) (sums_nil)))) (B := frame_Encode_B frame_Good frame_join) (hooks_nil) (has bor) 40) fun k => frame_Encode_eq frame_Good frame_join _ _ k
def e62 (x0 : Nat → Nat → PV) : Int := bits .or .u64 (shlI .u64 (bits .or .u64 0 (IntKind.u64.wrap (numOf (x0 0 0)))) 8) (IntKind.u64.wrap (numOf (x0 1 0)))
def e63 (x0 : Nat → Nat → PV) : Int := bits .or .u64 (shlI .u64 (bits .or .u64 (shlI .u64 (e62 x0) 8) (IntKind.u64.wrap (numOf (x0 2 0)))) 8) (IntKind.u64.wrap (numOf (x0 3 0)))
def e64 (x0 : Nat → Nat → PV) : Int := bits .or .u64 (shlI .u64 (bits .or .u64 (shlI .u64 (e63 x0) 8) (IntKind.u64.wrap (numOf (x0 4 0)))) 8) (IntKind.u64.wrap (numOf (x0 5 0)))
def e65 (x0 : Nat → Nat → PV) : Int := bits .or .u64 (shlI .u64 (bits .or .u64 0 (IntKind.u64.wrap (numOf (x0 6 0)))) 8) (IntKind.u64.wrap (numOf (x0 7 0)))
def e66 (x0 : Nat → Nat → PV) : Int := bits .or .u64 (shlI .u64 (bits .or .u64 (shlI .u64 (e65 x0) 8) (IntKind.u64.wrap (numOf (x0 8 0)))) 8) (IntKind.u64.wrap (numOf (x0 9 0)))
def e67 (x0 : Nat → Nat → PV) : Int := bits .or .u64 (shlI .u64 (bits .or .u64 (shlI .u64 (e66 x0) 8) (IntKind.u64.wrap (numOf (x0 10 0)))) 8) (IntKind.u64.wrap (numOf (x0 11 0)))
def e68 (x0 : Nat → Nat → PV) : Int := bits .or .i64 (shlI .i64 (IntKind.i64.wrap (numOf (x0 12 0))) 8) (IntKind.i64.wrap (numOf (x0 13 0)))
def e69 (x0 : Nat → Nat → PV) : Int := bits .or .i64 (shlI .i64 (IntKind.i64.wrap (numOf (x0 14 0))) 8) (IntKind.i64.wrap (numOf (x0 15 0)))
def e70 (x0 : Nat → Nat → PV) : Int := bits .or .i64 (shlI .i64 (IntKind.i64.wrap (numOf (x0 16 0))) 8) (IntKind.i64.wrap (numOf (x0 17 0)))
/- weirgate/frame.Good -/
def frame_Good_v1_T {α : Type} (Gmac_Group : Int → (Bool → Option α) → Option α) (a_1 : Int) (a_2 : Int) (a_3 : Int) (a_4 : Int) (a_5 : Int) (a_6 : Nat) (a_7 : Nat → Nat → PV) (k0 : Bool → Nat → (Nat → Nat → PV) → Option α) : Option α := bif !((shrI .u64 a_1 48) == 0) then
  k0 false a_6 a_7
 else bif !((shrI .u64 a_2 48) == 0) then
  k0 false a_6 a_7
 else Gmac_Group a_2
  (fun r_8 => bif r_8 then
   k0 false a_6 a_7
  else bif decide (a_5 < 0) then
   k0 false a_6 a_7
  else bif decide (a_5 ≥ 65536) then
   k0 false a_6 a_7
  else bif (a_5 == 33024) then
   k0 false a_6 a_7
  else bif decide ((a_6 : Int) > 1500) then
   k0 false a_6 a_7
  else bif decide (a_3 ≥ 0) then
   bif decide (a_3 < 8) then
    bif decide (a_4 ≥ 0) then
     k0 (decide (a_4 < 4096)) a_6 a_7
    else k0 false a_6 a_7
   else k0 false a_6 a_7
  else k0 false a_6 a_7)
def frame_Good_v1 {α : Type} (a_1 : Int) (a_2 : Int) (a_3 : Int) (a_4 : Int) (a_5 : Int) (a_6 : Nat) (a_7 : Nat → Nat → PV) (k0 : Bool → Nat → (Nat → Nat → PV) → Option α) : Option α := frame_Good_v1_T mac_Group a_1 a_2 a_3 a_4 a_5 a_6 a_7 k0
def frame_Good_v1_S (Gmac_Group : Int → (Bool → Option Out) → Option Out) : List (Nat × Sm) := [(16, yes), (56, smOf [(mac_Group_p, fun h k => Gmac_Group (gI h 0) (fun r0 => k (.v (.c (.pv (.val (.bool r0))))) []))])]
def frame_Good_v1_B (Gmac_Group : Int → (Bool → Option Out) → Option Out) : Hooks := []
theorem frame_Good_v1_eq (Gmac_Group : Int → (Bool → Option Out) → Option Out) (a_1 : Int) (a_2 : Int) (a_3 : Int) (a_4 : Int) (a_5 : Int) (a_6 : Nat) (a_7 : Nat → Nat → PV) (k : FK) : runS tt (has eql) Try.prog.funcs 1152921504606846976 (frame_Good_v1_S Gmac_Group) (frame_Good_v1_B Gmac_Group) (has bor) 40 31 [.v (.agg [.pv (.val (.int .u64 a_1)), .pv (.val (.int .u64 a_2)), .pv (.val (.bool true)), .pv (.val (.int .i64 a_3)), .pv (.val (.int .i64 a_4)), .pv (.val (.int .i64 a_5)), .own 0])] [.parr false (.int .u8 .nil) 1 a_6 (a_7)] k = frame_Good_v1_T Gmac_Group a_1 a_2 a_3 a_4 a_5 a_6 a_7 (fun r0 r1 r2 => k (.v (.c (.pv (.val (.bool r0))))) [.parr false (.int .u8 .nil) 1 r1 (r2)]) := by kernel_rfl
def frame_Good_v1_p : PAr := ⟨[.v (.agg [.pv (.int .u64 .h), .pv (.int .u64 .h), .pv (.bool (.l true)), .pv (.int .i64 .h), .pv (.int .i64 .h), .pv (.int .i64 .h), .own 0])], [.parr (.l false) (.int .u8 .nil) 1 .h]⟩
def frame_Good_v1_F (h : List Hole) (k : FK) : Option Out := frame_Good_v1 (gI h 0) (gI h 1) (gI h 2) (gI h 3) (gI h 4) (gN h 5) (gF h 6) (fun r0 r1 r2 => k (.v (.c (.pv (.val (.bool r0))))) [.parr false (.int .u8 .nil) 1 r1 (r2)])
theorem frame_Good_v1_at (h : List Hole) : CallAt Try.prog 31 (arFill frame_Good_v1_p h).1 (arFill frame_Good_v1_p h).2 (frame_Good_v1_F h) := by
  have e : arFill frame_Good_v1_p h = ([.v (.agg [.pv (.val (.int .u64 (gI h 0))), .pv (.val (.int .u64 (gI h 1))), .pv (.val (.bool true)), .pv (.val (.int .i64 (gI h 2))), .pv (.val (.int .i64 (gI h 3))), .pv (.val (.int .i64 (gI h 4))), .own 0])], [.parr false (.int .u8 .nil) 1 (gN h 5) ((gF h 6))]) := by kernel_rfl
  rw [e]; exact callAt_of (runS_ok ttOk eqOk mixed (names_ok namesOk) (S := frame_Good_v1_S mac_Group) (sums_cons yes16_ok (sums_cons (smOf_ok (alts_cons mac_Group_at alts_nil)) (sums_nil))) (B := frame_Good_v1_B mac_Group) (hooks_nil) (has bor) 40) fun k => frame_Good_v1_eq mac_Group _ _ _ _ _ _ _ k
/- weirgate/frame.Good -/
def frame_Good_v2_T {α : Type} (Gmac_Group : Int → (Bool → Option α) → Option α) (a_1 : Int) (a_2 : Int) (a_3 : Int) (a_4 : Nat) (a_5 : Nat → Nat → PV) (k0 : Nat → (Nat → Nat → PV) → Option α) (k1 : Nat → (Nat → Nat → PV) → Option α) : Option α := bif !((shrI .u64 a_1 48) == 0) then
  k0 a_4 a_5
 else bif !((shrI .u64 a_2 48) == 0) then
  k0 a_4 a_5
 else Gmac_Group a_2
  (fun r_6 => bif r_6 then
   k0 a_4 a_5
  else bif decide (a_3 < 0) then
   k0 a_4 a_5
  else bif decide (a_3 ≥ 65536) then
   k0 a_4 a_5
  else bif (a_3 == 33024) then
   k0 a_4 a_5
  else bif decide ((a_4 : Int) > 1504) then
   k0 a_4 a_5
  else k1 a_4 a_5)
def frame_Good_v2 {α : Type} (a_1 : Int) (a_2 : Int) (a_3 : Int) (a_4 : Nat) (a_5 : Nat → Nat → PV) (k0 : Nat → (Nat → Nat → PV) → Option α) (k1 : Nat → (Nat → Nat → PV) → Option α) : Option α := frame_Good_v2_T mac_Group a_1 a_2 a_3 a_4 a_5 k0 k1
def frame_Good_v2_S (Gmac_Group : Int → (Bool → Option Out) → Option Out) : List (Nat × Sm) := [(16, yes), (56, smOf [(mac_Group_p, fun h k => Gmac_Group (gI h 0) (fun r0 => k (.v (.c (.pv (.val (.bool r0))))) []))])]
def frame_Good_v2_B (Gmac_Group : Int → (Bool → Option Out) → Option Out) : Hooks := []
theorem frame_Good_v2_eq (Gmac_Group : Int → (Bool → Option Out) → Option Out) (a_1 : Int) (a_2 : Int) (a_3 : Int) (a_4 : Nat) (a_5 : Nat → Nat → PV) (k : FK) : runS tt (has eql) Try.prog.funcs 1152921504606846976 (frame_Good_v2_S Gmac_Group) (frame_Good_v2_B Gmac_Group) (has bor) 40 31 [.v (.agg [.pv (.val (.int .u64 a_1)), .pv (.val (.int .u64 a_2)), .pv (.val (.bool false)), .pv (.val (.int .i64 0)), .pv (.val (.int .i64 0)), .pv (.val (.int .i64 a_3)), .own 0])] [.parr false (.int .u8 .nil) 1 a_4 (a_5)] k = frame_Good_v2_T Gmac_Group a_1 a_2 a_3 a_4 a_5 (fun r0 r1 => k (.v (.c (.pv (.val (.bool false))))) [.parr false (.int .u8 .nil) 1 r0 (r1)]) (fun r0 r1 => k (.v (.c (.pv (.val (.bool true))))) [.parr false (.int .u8 .nil) 1 r0 (r1)]) := by kernel_rfl
def frame_Good_v2_p : PAr := ⟨[.v (.agg [.pv (.int .u64 .h), .pv (.int .u64 .h), .pv (.bool (.l false)), .pv (.int .i64 (.l 0)), .pv (.int .i64 (.l 0)), .pv (.int .i64 .h), .own 0])], [.parr (.l false) (.int .u8 .nil) 1 .h]⟩
def frame_Good_v2_F (h : List Hole) (k : FK) : Option Out := frame_Good_v2 (gI h 0) (gI h 1) (gI h 2) (gN h 3) (gF h 4) (fun r0 r1 => k (.v (.c (.pv (.val (.bool false))))) [.parr false (.int .u8 .nil) 1 r0 (r1)]) (fun r0 r1 => k (.v (.c (.pv (.val (.bool true))))) [.parr false (.int .u8 .nil) 1 r0 (r1)])
theorem frame_Good_v2_at (h : List Hole) : CallAt Try.prog 31 (arFill frame_Good_v2_p h).1 (arFill frame_Good_v2_p h).2 (frame_Good_v2_F h) := by
  have e : arFill frame_Good_v2_p h = ([.v (.agg [.pv (.val (.int .u64 (gI h 0))), .pv (.val (.int .u64 (gI h 1))), .pv (.val (.bool false)), .pv (.val (.int .i64 0)), .pv (.val (.int .i64 0)), .pv (.val (.int .i64 (gI h 2))), .own 0])], [.parr false (.int .u8 .nil) 1 (gN h 3) ((gF h 4))]) := by kernel_rfl
  rw [e]; exact callAt_of (runS_ok ttOk eqOk mixed (names_ok namesOk) (S := frame_Good_v2_S mac_Group) (sums_cons yes16_ok (sums_cons (smOf_ok (alts_cons mac_Group_at alts_nil)) (sums_nil))) (B := frame_Good_v2_B mac_Group) (hooks_nil) (has bor) 40) fun k => frame_Good_v2_eq mac_Group _ _ _ _ _ k
/- weirgate/frame.Parse -/
def frame_Parse_T {α : Type} (Gframe_Good_v1 : Int → Int → Int → Int → Int → Nat → (Nat → Nat → PV) → (Bool → Nat → (Nat → Nat → PV) → Option α) → Option α) (Gframe_Good_v2 : Int → Int → Int → Nat → (Nat → Nat → PV) → (Nat → (Nat → Nat → PV) → Option α) → (Nat → (Nat → Nat → PV) → Option α) → Option α) (a_1 : Nat) (a_2 : Nat → Nat → PV) (k0 : Nat → (Nat → Nat → PV) → Option α) (k1 : Int → Int → Int → Int → Int → Nat → (Nat → Nat → PV) → Nat → (Nat → Nat → PV) → Option α) (k2 : Int → Int → Int → Nat → (Nat → Nat → PV) → Nat → (Nat → Nat → PV) → Option α) : Option α := bif decide ((a_1 : Int) < 14) then
  k0 a_1 a_2
 else bif inb 6 (a_1 + 1) then
  bif inb 12 (a_1 + 1) then
   bif inb (a_1 : Int) (a_1 + 1) then
    bif decide (12 ≤ (a_1 : Int)) then
     bif inb 0 (a_1 - 12) then
      bif inb 1 (a_1 - 12) then
       bif ((e68 a_2) == 33024) then
        bif decide (((a_1 - 12 : Nat) : Int) < 6) then
         k0 a_1 a_2
        else bif inb ((a_1 - 12 : Nat) : Int) ((a_1 - 12) + 1) then
         bif decide (2 ≤ ((a_1 - 12 : Nat) : Int)) then
          bif inb 0 ((a_1 - 12) - 2) then
           bif inb 1 ((a_1 - 12) - 2) then
            bif inb ((a_1 - 12 : Nat) : Int) ((a_1 - 12) + 1) then
             bif decide (4 ≤ ((a_1 - 12 : Nat) : Int)) then
              bif inb 0 ((a_1 - 12) - 4) then
               bif inb 1 ((a_1 - 12) - 4) then
                bif inb (((a_1 - 12) - 4 : Nat) : Int) (((a_1 - 12) - 4) + 1) then
                 bif decide (2 ≤ (((a_1 - 12) - 4 : Nat) : Int)) then
                  bif Nat.ble ((0 + (((a_1 - 12) - 4) - 2)) * 1) bound then
                   Gframe_Good_v1 (e64 a_2) (e67 a_2) (shrI .i64 (e69 a_2) 13) (bits .and .i64 (e69 a_2) 8191) (e70 a_2) (0 + (((a_1 - 12) - 4) - 2)) (catf 0 (rowOf 1 []) (fun j c => (a_2) (18 + j) c))
                    (fun r_3 r_4 r_5 => bif !r_3 then
                     k0 a_1 a_2
                    else k1 (e64 a_2) (e67 a_2) (shrI .i64 (e69 a_2) 13) (bits .and .i64 (e69 a_2) 8191) (e70 a_2) a_1 a_2 r_4 r_5)
                  else none /- test -/
                 else none /- test -/
                else none /- test -/
               else none /- test -/
              else none /- test -/
             else none /- test -/
            else none /- test -/
           else none /- test -/
          else none /- test -/
         else none /- test -/
        else none /- test -/
       else bif inb 0 (a_1 - 12) then
        bif inb 1 (a_1 - 12) then
         bif inb ((a_1 - 12 : Nat) : Int) ((a_1 - 12) + 1) then
          bif decide (2 ≤ ((a_1 - 12 : Nat) : Int)) then
           bif Nat.ble ((0 + ((a_1 - 12) - 2)) * 1) bound then
            Gframe_Good_v2 (e64 a_2) (e67 a_2) (e68 a_2) (0 + ((a_1 - 12) - 2)) (catf 0 (rowOf 1 []) (fun j c => (a_2) (14 + j) c))
             (fun r_3 r_4 => k0 a_1 a_2)
             (fun r_3 r_4 => k2 (e64 a_2) (e67 a_2) (e68 a_2) a_1 a_2 r_3 r_4)
           else none /- test -/
          else none /- test -/
         else none /- test -/
        else none /- test -/
       else none /- test -/
      else none /- test -/
     else none /- test -/
    else none /- test -/
   else none /- test -/
  else none /- test -/
 else none /- test -/
def frame_Parse {α : Type} (a_1 : Nat) (a_2 : Nat → Nat → PV) (k0 : Nat → (Nat → Nat → PV) → Option α) (k1 : Int → Int → Int → Int → Int → Nat → (Nat → Nat → PV) → Nat → (Nat → Nat → PV) → Option α) (k2 : Int → Int → Int → Nat → (Nat → Nat → PV) → Nat → (Nat → Nat → PV) → Option α) : Option α := frame_Parse_T frame_Good_v1 frame_Good_v2 a_1 a_2 k0 k1 k2
def frame_Parse_S (Gframe_Good_v1 : Int → Int → Int → Int → Int → Nat → (Nat → Nat → PV) → (Bool → Nat → (Nat → Nat → PV) → Option Out) → Option Out) (Gframe_Good_v2 : Int → Int → Int → Nat → (Nat → Nat → PV) → (Nat → (Nat → Nat → PV) → Option Out) → (Nat → (Nat → Nat → PV) → Option Out) → Option Out) : List (Nat × Sm) := [(16, yes), (31, smOf [(frame_Good_v1_p, fun h k => Gframe_Good_v1 (gI h 0) (gI h 1) (gI h 2) (gI h 3) (gI h 4) (gN h 5) (gF h 6) (fun r0 r1 r2 => k (.v (.c (.pv (.val (.bool r0))))) [.parr false (.int .u8 .nil) 1 r1 (r2)])), (frame_Good_v2_p, fun h k => Gframe_Good_v2 (gI h 0) (gI h 1) (gI h 2) (gN h 3) (gF h 4) (fun r0 r1 => k (.v (.c (.pv (.val (.bool false))))) [.parr false (.int .u8 .nil) 1 r0 (r1)]) (fun r0 r1 => k (.v (.c (.pv (.val (.bool true))))) [.parr false (.int .u8 .nil) 1 r0 (r1)])), (frame_Good_p, frame_Good_F)])]
def frame_Parse_B (Gframe_Good_v1 : Int → Int → Int → Int → Int → Nat → (Nat → Nat → PV) → (Bool → Nat → (Nat → Nat → PV) → Option Out) → Option Out) (Gframe_Good_v2 : Int → Int → Int → Nat → (Nat → Nat → PV) → (Nat → (Nat → Nat → PV) → Option Out) → (Nat → (Nat → Nat → PV) → Option Out) → Option Out) : Hooks := []
theorem frame_Parse_eq (Gframe_Good_v1 : Int → Int → Int → Int → Int → Nat → (Nat → Nat → PV) → (Bool → Nat → (Nat → Nat → PV) → Option Out) → Option Out) (Gframe_Good_v2 : Int → Int → Int → Nat → (Nat → Nat → PV) → (Nat → (Nat → Nat → PV) → Option Out) → (Nat → (Nat → Nat → PV) → Option Out) → Option Out) (a_1 : Nat) (a_2 : Nat → Nat → PV) (k : FK) : runS tt (has eql) Try.prog.funcs 1152921504606846976 (frame_Parse_S Gframe_Good_v1 Gframe_Good_v2) (frame_Parse_B Gframe_Good_v1 Gframe_Good_v2) (has bor) 40 29 [.v (.c (.own 0))] [.parr false (.int .u8 .nil) 1 a_1 (a_2)] k = frame_Parse_T Gframe_Good_v1 Gframe_Good_v2 a_1 a_2 (fun r0 r1 => k (.tup [.agg [.pv (.val (.int .u64 0)), .pv (.val (.int .u64 0)), .pv (.val (.bool false)), .pv (.val (.int .i64 0)), .pv (.val (.int .i64 0)), .pv (.val (.int .i64 0)), .pv (.val (.slice none 0 0))], .c (.pv (.val (.int .i64 11)))]) [.parr false (.int .u8 .nil) 1 r0 (r1)]) (fun r0 r1 r2 r3 r4 r5 r6 r7 r8 => k (.tup [.agg [.pv (.val (.int .u64 r0)), .pv (.val (.int .u64 r1)), .pv (.val (.bool true)), .pv (.val (.int .i64 r2)), .pv (.val (.int .i64 r3)), .pv (.val (.int .i64 r4)), .own 1], .c (.pv (.val (.int .i64 0)))]) [.parr false (.int .u8 .nil) 1 r5 (r6), .parr false (.int .u8 .nil) 1 r7 (r8)]) (fun r0 r1 r2 r3 r4 r5 r6 => k (.tup [.agg [.pv (.val (.int .u64 r0)), .pv (.val (.int .u64 r1)), .pv (.val (.bool false)), .pv (.val (.int .i64 0)), .pv (.val (.int .i64 0)), .pv (.val (.int .i64 r2)), .own 1], .c (.pv (.val (.int .i64 0)))]) [.parr false (.int .u8 .nil) 1 r3 (r4), .parr false (.int .u8 .nil) 1 r5 (r6)]) := by kernel_rfl
def frame_Parse_p : PAr := ⟨[.v (.c (.own 0))], [.parr (.l false) (.int .u8 .nil) 1 .h]⟩
def frame_Parse_F (h : List Hole) (k : FK) : Option Out := frame_Parse (gN h 0) (gF h 1) (fun r0 r1 => k (.tup [.agg [.pv (.val (.int .u64 0)), .pv (.val (.int .u64 0)), .pv (.val (.bool false)), .pv (.val (.int .i64 0)), .pv (.val (.int .i64 0)), .pv (.val (.int .i64 0)), .pv (.val (.slice none 0 0))], .c (.pv (.val (.int .i64 11)))]) [.parr false (.int .u8 .nil) 1 r0 (r1)]) (fun r0 r1 r2 r3 r4 r5 r6 r7 r8 => k (.tup [.agg [.pv (.val (.int .u64 r0)), .pv (.val (.int .u64 r1)), .pv (.val (.bool true)), .pv (.val (.int .i64 r2)), .pv (.val (.int .i64 r3)), .pv (.val (.int .i64 r4)), .own 1], .c (.pv (.val (.int .i64 0)))]) [.parr false (.int .u8 .nil) 1 r5 (r6), .parr false (.int .u8 .nil) 1 r7 (r8)]) (fun r0 r1 r2 r3 r4 r5 r6 => k (.tup [.agg [.pv (.val (.int .u64 r0)), .pv (.val (.int .u64 r1)), .pv (.val (.bool false)), .pv (.val (.int .i64 0)), .pv (.val (.int .i64 0)), .pv (.val (.int .i64 r2)), .own 1], .c (.pv (.val (.int .i64 0)))]) [.parr false (.int .u8 .nil) 1 r3 (r4), .parr false (.int .u8 .nil) 1 r5 (r6)])
theorem frame_Parse_at (h : List Hole) : CallAt Try.prog 29 (arFill frame_Parse_p h).1 (arFill frame_Parse_p h).2 (frame_Parse_F h) := by
  have e : arFill frame_Parse_p h = ([.v (.c (.own 0))], [.parr false (.int .u8 .nil) 1 (gN h 0) ((gF h 1))]) := by kernel_rfl
  rw [e]; exact callAt_of (runS_ok ttOk eqOk mixed (names_ok namesOk) (S := frame_Parse_S frame_Good_v1 frame_Good_v2) (sums_cons yes16_ok (sums_cons (smOf_ok (alts_cons frame_Good_v1_at (alts_cons frame_Good_v2_at (alts_cons frame_Good_at alts_nil)))) (sums_nil))) (B := frame_Parse_B frame_Good_v1 frame_Good_v2) (hooks_nil) (has bor) 40) fun k => frame_Parse_eq frame_Good_v1 frame_Good_v2 _ _ k
/- weirgate/bpdu.Parse -/
def bpdu_Parse_T {α : Type} (Gframe_Good_v1 : Int → Int → Int → Int → Int → Nat → (Nat → Nat → PV) → (Bool → Nat → (Nat → Nat → PV) → Option α) → Option α) (a_1 : Int) (a_2 : Int) (a_3 : Int) (a_4 : Int) (a_5 : Int) (a_6 : Nat) (a_7 : Nat → Nat → PV) (k0 : Nat → (Nat → Nat → PV) → Option α) : Option α := bif !(a_1 == 1652522221568) then
  k0 a_6 a_7
 else Gframe_Good_v1 a_1 a_2 a_3 a_4 a_5 a_6 a_7
  (fun r_8 r_9 r_10 => bif !r_8 then
   k0 r_9 r_10
  else k0 r_9 r_10)
def bpdu_Parse {α : Type} (a_1 : Int) (a_2 : Int) (a_3 : Int) (a_4 : Int) (a_5 : Int) (a_6 : Nat) (a_7 : Nat → Nat → PV) (k0 : Nat → (Nat → Nat → PV) → Option α) : Option α := bpdu_Parse_T frame_Good_v1 a_1 a_2 a_3 a_4 a_5 a_6 a_7 k0
def bpdu_Parse_S (Gframe_Good_v1 : Int → Int → Int → Int → Int → Nat → (Nat → Nat → PV) → (Bool → Nat → (Nat → Nat → PV) → Option Out) → Option Out) : List (Nat × Sm) := [(16, yes), (31, smOf [(frame_Good_v1_p, fun h k => Gframe_Good_v1 (gI h 0) (gI h 1) (gI h 2) (gI h 3) (gI h 4) (gN h 5) (gF h 6) (fun r0 r1 r2 => k (.v (.c (.pv (.val (.bool r0))))) [.parr false (.int .u8 .nil) 1 r1 (r2)])), (frame_Good_v2_p, frame_Good_v2_F), (frame_Good_p, frame_Good_F)])]
def bpdu_Parse_B (Gframe_Good_v1 : Int → Int → Int → Int → Int → Nat → (Nat → Nat → PV) → (Bool → Nat → (Nat → Nat → PV) → Option Out) → Option Out) : Hooks := []
theorem bpdu_Parse_eq (Gframe_Good_v1 : Int → Int → Int → Int → Int → Nat → (Nat → Nat → PV) → (Bool → Nat → (Nat → Nat → PV) → Option Out) → Option Out) (a_1 : Int) (a_2 : Int) (a_3 : Int) (a_4 : Int) (a_5 : Int) (a_6 : Nat) (a_7 : Nat → Nat → PV) (k : FK) : runS tt (has eql) Try.prog.funcs 1152921504606846976 (bpdu_Parse_S Gframe_Good_v1) (bpdu_Parse_B Gframe_Good_v1) (has bor) 40 19 [.v (.agg [.pv (.val (.int .u64 a_1)), .pv (.val (.int .u64 a_2)), .pv (.val (.bool true)), .pv (.val (.int .i64 a_3)), .pv (.val (.int .i64 a_4)), .pv (.val (.int .i64 a_5)), .own 0])] [.parr false (.int .u8 .nil) 1 a_6 (a_7)] k = bpdu_Parse_T Gframe_Good_v1 a_1 a_2 a_3 a_4 a_5 a_6 a_7 (fun r0 r1 => k (.tup [.agg [.pv (.val (.int .u64 0)), .pv (.val (.int .u32 0)), .pv (.val (.int .u64 0)), .pv (.val (.int .i64 0)), .pv (.val (.int .i64 0)), .pv (.val (.int .i64 0)), .pv (.val (.bool false)), .pv (.val (.bool false)), .pv (.val (.bool false)), .pv (.val (.bool false)), .pv (.val (.bool false))], .c (.pv (.val (.int .i64 11)))]) [.parr false (.int .u8 .nil) 1 r0 (r1)]) := by kernel_rfl
def bpdu_Parse_p : PAr := ⟨[.v (.agg [.pv (.int .u64 .h), .pv (.int .u64 .h), .pv (.bool (.l true)), .pv (.int .i64 .h), .pv (.int .i64 .h), .pv (.int .i64 .h), .own 0])], [.parr (.l false) (.int .u8 .nil) 1 .h]⟩
def bpdu_Parse_F (h : List Hole) (k : FK) : Option Out := bpdu_Parse (gI h 0) (gI h 1) (gI h 2) (gI h 3) (gI h 4) (gN h 5) (gF h 6) (fun r0 r1 => k (.tup [.agg [.pv (.val (.int .u64 0)), .pv (.val (.int .u32 0)), .pv (.val (.int .u64 0)), .pv (.val (.int .i64 0)), .pv (.val (.int .i64 0)), .pv (.val (.int .i64 0)), .pv (.val (.bool false)), .pv (.val (.bool false)), .pv (.val (.bool false)), .pv (.val (.bool false)), .pv (.val (.bool false))], .c (.pv (.val (.int .i64 11)))]) [.parr false (.int .u8 .nil) 1 r0 (r1)])
theorem bpdu_Parse_at (h : List Hole) : CallAt Try.prog 19 (arFill bpdu_Parse_p h).1 (arFill bpdu_Parse_p h).2 (bpdu_Parse_F h) := by
  have e : arFill bpdu_Parse_p h = ([.v (.agg [.pv (.val (.int .u64 (gI h 0))), .pv (.val (.int .u64 (gI h 1))), .pv (.val (.bool true)), .pv (.val (.int .i64 (gI h 2))), .pv (.val (.int .i64 (gI h 3))), .pv (.val (.int .i64 (gI h 4))), .own 0])], [.parr false (.int .u8 .nil) 1 (gN h 5) ((gF h 6))]) := by kernel_rfl
  rw [e]; exact callAt_of (runS_ok ttOk eqOk mixed (names_ok namesOk) (S := bpdu_Parse_S frame_Good_v1) (sums_cons yes16_ok (sums_cons (smOf_ok (alts_cons frame_Good_v1_at (alts_cons frame_Good_v2_at (alts_cons frame_Good_at alts_nil)))) (sums_nil))) (B := bpdu_Parse_B frame_Good_v1) (hooks_nil) (has bor) 40) fun k => bpdu_Parse_eq frame_Good_v1 _ _ _ _ _ _ _ k
/- slices.Equal[[]byte,byte] -/
def slices_Equal_byte_byte_T {α : Type}  (a_1 : Nat) (a_2 : Nat → Nat → PV) (a_3 : Nat → Nat → PV) (k0 : Nat → (Nat → Nat → PV) → (Nat → Nat → PV) → Option α) (k1 : Nat → (Nat → Nat → PV) → (Nat → Nat → PV) → Option α) : Option α := bif ((numOf (a_2 0 0)) != (numOf (a_3 0 0))) then
  k0 a_1 a_2 a_3
 else bif ((numOf (a_2 1 0)) != (numOf (a_3 1 0))) then
  k0 a_1 a_2 a_3
 else bif ((numOf (a_2 2 0)) != (numOf (a_3 2 0))) then
  k0 a_1 a_2 a_3
 else bif ((numOf (a_2 3 0)) != (numOf (a_3 3 0))) then
  k0 a_1 a_2 a_3
 else bif ((numOf (a_2 4 0)) != (numOf (a_3 4 0))) then
  k0 a_1 a_2 a_3
 else bif ((numOf (a_2 5 0)) != (numOf (a_3 5 0))) then
  k0 a_1 a_2 a_3
 else bif ((numOf (a_2 6 0)) != (numOf (a_3 6 0))) then
  k0 a_1 a_2 a_3
 else k1 a_1 a_2 a_3
def slices_Equal_byte_byte {α : Type} (a_1 : Nat) (a_2 : Nat → Nat → PV) (a_3 : Nat → Nat → PV) (k0 : Nat → (Nat → Nat → PV) → (Nat → Nat → PV) → Option α) (k1 : Nat → (Nat → Nat → PV) → (Nat → Nat → PV) → Option α) : Option α := slices_Equal_byte_byte_T  a_1 a_2 a_3 k0 k1
def slices_Equal_byte_byte_S  : List (Nat × Sm) := [(16, yes)]
def slices_Equal_byte_byte_B  : Hooks := []
theorem slices_Equal_byte_byte_eq  (a_1 : Nat) (a_2 : Nat → Nat → PV) (a_3 : Nat → Nat → PV) (k : FK) : runS tt (has eql) Try.prog.funcs 1152921504606846976 (slices_Equal_byte_byte_S ) (slices_Equal_byte_byte_B ) (has bor) 40 64 [.v (.c (.pre 0 7)), .v (.c (.own 1))] [.parr false (.int .u8 .nil) 1 a_1 (a_2), .parr false (.int .u8 .nil) 1 7 (a_3)] k = slices_Equal_byte_byte_T  a_1 a_2 a_3 (fun r0 r1 r2 => k (.v (.c (.pv (.val (.bool false))))) [.parr false (.int .u8 .nil) 1 r0 (r1), .parr false (.int .u8 .nil) 1 7 (r2)]) (fun r0 r1 r2 => k (.v (.c (.pv (.val (.bool true))))) [.parr false (.int .u8 .nil) 1 r0 (r1), .parr false (.int .u8 .nil) 1 7 (r2)]) := by kernel_rfl
def slices_Equal_byte_byte_p : PAr := ⟨[.v (.c (.pre 0 (.l 7))), .v (.c (.own 1))], [.parr (.l false) (.int .u8 .nil) 1 .h, .parr (.l false) (.int .u8 .nil) 1 (.l 7)]⟩
def slices_Equal_byte_byte_F (h : List Hole) (k : FK) : Option Out := slices_Equal_byte_byte (gN h 0) (gF h 1) (gF h 2) (fun r0 r1 r2 => k (.v (.c (.pv (.val (.bool false))))) [.parr false (.int .u8 .nil) 1 r0 (r1), .parr false (.int .u8 .nil) 1 7 (r2)]) (fun r0 r1 r2 => k (.v (.c (.pv (.val (.bool true))))) [.parr false (.int .u8 .nil) 1 r0 (r1), .parr false (.int .u8 .nil) 1 7 (r2)])
theorem slices_Equal_byte_byte_at (h : List Hole) : CallAt Try.prog 64 (arFill slices_Equal_byte_byte_p h).1 (arFill slices_Equal_byte_byte_p h).2 (slices_Equal_byte_byte_F h) := by
  have e : arFill slices_Equal_byte_byte_p h = ([.v (.c (.pre 0 7)), .v (.c (.own 1))], [.parr false (.int .u8 .nil) 1 (gN h 0) ((gF h 1)), .parr false (.int .u8 .nil) 1 7 ((gF h 2))]) := by kernel_rfl
  rw [e]; exact callAt_of (runS_ok ttOk eqOk mixed (names_ok namesOk) (S := slices_Equal_byte_byte_S ) (sums_cons yes16_ok (sums_nil)) (B := slices_Equal_byte_byte_B ) (hooks_nil) (has bor) 40) fun k => slices_Equal_byte_byte_eq  _ _ _ k
def e71 (x0 : Nat → Nat → PV) : Int := bits .or .u64 (shlI .u64 (bits .or .u64 0 (IntKind.u64.wrap (numOf (x0 8 0)))) 8) (IntKind.u64.wrap (numOf (x0 9 0)))
def e72 (x0 : Nat → Nat → PV) : Int := bits .or .u64 (shlI .u64 (bits .or .u64 (shlI .u64 (e71 x0) 8) (IntKind.u64.wrap (numOf (x0 10 0)))) 8) (IntKind.u64.wrap (numOf (x0 11 0)))
def e73 (x0 : Nat → Nat → PV) : Int := bits .or .u64 (shlI .u64 (bits .or .u64 (shlI .u64 (e72 x0) 8) (IntKind.u64.wrap (numOf (x0 12 0)))) 8) (IntKind.u64.wrap (numOf (x0 13 0)))
def e74 (x0 : Nat → Nat → PV) : Int := bits .or .u64 (shlI .u64 (bits .or .u64 (shlI .u64 (e73 x0) 8) (IntKind.u64.wrap (numOf (x0 14 0)))) 8) (IntKind.u64.wrap (numOf (x0 15 0)))
def e75 (x0 : Nat → Nat → PV) : Int := bits .or .u64 (shlI .u64 (bits .or .u64 0 (IntKind.u64.wrap (numOf (x0 16 0)))) 8) (IntKind.u64.wrap (numOf (x0 17 0)))
def e76 (x0 : Nat → Nat → PV) : Int := bits .or .u64 (shlI .u64 (bits .or .u64 (shlI .u64 (e75 x0) 8) (IntKind.u64.wrap (numOf (x0 18 0)))) 8) (IntKind.u64.wrap (numOf (x0 19 0)))
def e77 (x0 : Nat → Nat → PV) : Int := bits .or .u64 (shlI .u64 (bits .or .u64 0 (IntKind.u64.wrap (numOf (x0 20 0)))) 8) (IntKind.u64.wrap (numOf (x0 21 0)))
def e78 (x0 : Nat → Nat → PV) : Int := bits .or .u64 (shlI .u64 (bits .or .u64 (shlI .u64 (e77 x0) 8) (IntKind.u64.wrap (numOf (x0 22 0)))) 8) (IntKind.u64.wrap (numOf (x0 23 0)))
def e79 (x0 : Nat → Nat → PV) : Int := bits .or .u64 (shlI .u64 (bits .or .u64 (shlI .u64 (e78 x0) 8) (IntKind.u64.wrap (numOf (x0 24 0)))) 8) (IntKind.u64.wrap (numOf (x0 25 0)))
def e80 (x0 : Nat → Nat → PV) : Int := bits .or .u64 (shlI .u64 (bits .or .u64 (shlI .u64 (e79 x0) 8) (IntKind.u64.wrap (numOf (x0 26 0)))) 8) (IntKind.u64.wrap (numOf (x0 27 0)))
def e81 (x0 : Nat → Nat → PV) : Int := bits .or .u64 (shlI .u64 (bits .or .u64 0 (IntKind.u64.wrap (numOf (x0 28 0)))) 8) (IntKind.u64.wrap (numOf (x0 29 0)))
def e82 (x0 : Nat → Nat → PV) : Int := bits .or .u64 (shlI .u64 (bits .or .u64 0 (IntKind.u64.wrap (numOf (x0 30 0)))) 8) (IntKind.u64.wrap (numOf (x0 31 0)))
def e83 (x0 : Nat → Nat → PV) : Int := bits .and .u8 (shrI .u8 (IntKind.u8.wrap (bits .or .u64 0 (IntKind.u64.wrap (numOf (x0 7 0))))) 2) 3
def e84 (x0 : Nat → Nat → PV) : Bool := ((bits .and .u8 (IntKind.u8.wrap (bits .or .u64 0 (IntKind.u64.wrap (numOf (x0 7 0))))) 1) != 0)
def e85 (x0 : Nat → Nat → PV) : Bool := ((bits .and .u8 (IntKind.u8.wrap (bits .or .u64 0 (IntKind.u64.wrap (numOf (x0 7 0))))) 2) != 0)
def e86 (x0 : Nat → Nat → PV) : Bool := ((bits .and .u8 (IntKind.u8.wrap (bits .or .u64 0 (IntKind.u64.wrap (numOf (x0 7 0))))) 64) != 0)
def e87 (x0 : Nat → Nat → PV) : Bool := ((bits .and .u8 (IntKind.u8.wrap (bits .or .u64 0 (IntKind.u64.wrap (numOf (x0 7 0))))) 16) != 0)
def e88 (x0 : Nat → Nat → PV) : Bool := ((bits .and .u8 (IntKind.u8.wrap (bits .or .u64 0 (IntKind.u64.wrap (numOf (x0 7 0))))) 32) != 0)
def e89 (x0 : Nat → Nat → PV) : Int := bits .and .u8 (IntKind.u8.wrap (bits .or .u64 0 (IntKind.u64.wrap (numOf (x0 7 0))))) 128
/- weirgate/bpdu.Parse -/
def bpdu_Parse_v1_T {α : Type} (Gframe_Good_v2 : Int → Int → Int → Nat → (Nat → Nat → PV) → (Nat → (Nat → Nat → PV) → Option α) → (Nat → (Nat → Nat → PV) → Option α) → Option α) (Gslices_Equal_byte_byte : Nat → (Nat → Nat → PV) → (Nat → Nat → PV) → (Nat → (Nat → Nat → PV) → (Nat → Nat → PV) → Option α) → (Nat → (Nat → Nat → PV) → (Nat → Nat → PV) → Option α) → Option α) (Gbpdu_Good : Int → Int → Int → Int → Int → Int → Bool → Bool → Bool → Bool → Bool → (Bool → Option α) → Option α) (a_1 : Int) (a_2 : Int) (a_3 : Int) (a_4 : Nat) (a_5 : Nat → Nat → PV) (k0 : Nat → (Nat → Nat → PV) → Option α) (k1 : Int → Int → Int → Int → Int → Int → Bool → Bool → Bool → Bool → Bool → Nat → (Nat → Nat → PV) → Option α) : Option α := bif !(a_1 == 1652522221568) then
  k0 a_4 a_5
 else Gframe_Good_v2 a_1 a_2 a_3 a_4 a_5
  (fun r_6 r_7 => k0 r_6 r_7)
  (fun r_6 r_7 => bif (a_3 != 39) then
   k0 r_6 r_7
  else bif decide ((r_6 : Int) < 39) then
   k0 r_6 r_7
  else bif inb 7 (r_6 + 1) then
   Gslices_Equal_byte_byte r_6 r_7 e1
    (fun r_8 r_9 r_10 => k0 r_8 r_9)
    (fun r_8 r_9 r_10 => bif inb (r_8 : Int) (r_8 + 1) then
     bif decide (7 ≤ (r_8 : Int)) then
      bif inb 1 ((r_8 - 7) + 1) then
       bif inb ((r_8 - 7 : Nat) : Int) ((r_8 - 7) + 1) then
        bif decide (1 ≤ ((r_8 - 7 : Nat) : Int)) then
         bif inb 8 (((r_8 - 7) - 1) + 1) then
          bif inb (((r_8 - 7) - 1 : Nat) : Int) (((r_8 - 7) - 1) + 1) then
           bif decide (8 ≤ (((r_8 - 7) - 1 : Nat) : Int)) then
            bif inb 4 ((((r_8 - 7) - 1) - 8) + 1) then
             bif inb ((((r_8 - 7) - 1) - 8 : Nat) : Int) ((((r_8 - 7) - 1) - 8) + 1) then
              bif decide (4 ≤ ((((r_8 - 7) - 1) - 8 : Nat) : Int)) then
               bif inb 8 (((((r_8 - 7) - 1) - 8) - 4) + 1) then
                bif inb (((((r_8 - 7) - 1) - 8) - 4 : Nat) : Int) (((((r_8 - 7) - 1) - 8) - 4) + 1) then
                 bif decide (8 ≤ (((((r_8 - 7) - 1) - 8) - 4 : Nat) : Int)) then
                  bif inb 2 ((((((r_8 - 7) - 1) - 8) - 4) - 8) + 1) then
                   bif inb ((((((r_8 - 7) - 1) - 8) - 4) - 8 : Nat) : Int) ((((((r_8 - 7) - 1) - 8) - 4) - 8) + 1) then
                    bif decide (2 ≤ ((((((r_8 - 7) - 1) - 8) - 4) - 8 : Nat) : Int)) then
                     bif inb 2 (((((((r_8 - 7) - 1) - 8) - 4) - 8) - 2) + 1) then
                      bif inb (((((((r_8 - 7) - 1) - 8) - 4) - 8) - 2 : Nat) : Int) (((((((r_8 - 7) - 1) - 8) - 4) - 8) - 2) + 1) then
                       bif decide (2 ≤ (((((((r_8 - 7) - 1) - 8) - 4) - 8) - 2 : Nat) : Int)) then
                        bif ((e89 r_9) != 0) then
                         k0 r_8 r_9
                        else Gbpdu_Good (e74 r_9) (IntKind.u32.wrap (e76 r_9)) (e80 r_9) (IntKind.i64.wrap (e81 r_9)) (IntKind.i64.wrap (e82 r_9)) (IntKind.i64.wrap (e83 r_9)) (e85 r_9) (e86 r_9) (e87 r_9) (e88 r_9) (e84 r_9)
                         (fun r_11 => bif !r_11 then
                          k0 r_8 r_9
                         else k1 (e74 r_9) (IntKind.u32.wrap (e76 r_9)) (e80 r_9) (IntKind.i64.wrap (e81 r_9)) (IntKind.i64.wrap (e82 r_9)) (IntKind.i64.wrap (e83 r_9)) (e85 r_9) (e86 r_9) (e87 r_9) (e88 r_9) (e84 r_9) r_8 r_9)
                       else none /- test -/
                      else none /- test -/
                     else none /- test -/
                    else none /- test -/
                   else none /- test -/
                  else none /- test -/
                 else none /- test -/
                else none /- test -/
               else none /- test -/
              else none /- test -/
             else none /- test -/
            else none /- test -/
           else none /- test -/
          else none /- test -/
         else none /- test -/
        else none /- test -/
       else none /- test -/
      else none /- test -/
     else none /- test -/
    else none /- test -/)
  else none /- test -/)
def bpdu_Parse_v1 {α : Type} (a_1 : Int) (a_2 : Int) (a_3 : Int) (a_4 : Nat) (a_5 : Nat → Nat → PV) (k0 : Nat → (Nat → Nat → PV) → Option α) (k1 : Int → Int → Int → Int → Int → Int → Bool → Bool → Bool → Bool → Bool → Nat → (Nat → Nat → PV) → Option α) : Option α := bpdu_Parse_v1_T frame_Good_v2 slices_Equal_byte_byte bpdu_Good a_1 a_2 a_3 a_4 a_5 k0 k1
def bpdu_Parse_v1_S (Gframe_Good_v2 : Int → Int → Int → Nat → (Nat → Nat → PV) → (Nat → (Nat → Nat → PV) → Option Out) → (Nat → (Nat → Nat → PV) → Option Out) → Option Out) (Gslices_Equal_byte_byte : Nat → (Nat → Nat → PV) → (Nat → Nat → PV) → (Nat → (Nat → Nat → PV) → (Nat → Nat → PV) → Option Out) → (Nat → (Nat → Nat → PV) → (Nat → Nat → PV) → Option Out) → Option Out) (Gbpdu_Good : Int → Int → Int → Int → Int → Int → Bool → Bool → Bool → Bool → Bool → (Bool → Option Out) → Option Out) : List (Nat × Sm) := [(16, yes), (31, smOf [(frame_Good_v1_p, frame_Good_v1_F), (frame_Good_v2_p, fun h k => Gframe_Good_v2 (gI h 0) (gI h 1) (gI h 2) (gN h 3) (gF h 4) (fun r0 r1 => k (.v (.c (.pv (.val (.bool false))))) [.parr false (.int .u8 .nil) 1 r0 (r1)]) (fun r0 r1 => k (.v (.c (.pv (.val (.bool true))))) [.parr false (.int .u8 .nil) 1 r0 (r1)])), (frame_Good_p, frame_Good_F)]), (64, smOf [(slices_Equal_byte_byte_p, fun h k => Gslices_Equal_byte_byte (gN h 0) (gF h 1) (gF h 2) (fun r0 r1 r2 => k (.v (.c (.pv (.val (.bool false))))) [.parr false (.int .u8 .nil) 1 r0 (r1), .parr false (.int .u8 .nil) 1 7 (r2)]) (fun r0 r1 r2 => k (.v (.c (.pv (.val (.bool true))))) [.parr false (.int .u8 .nil) 1 r0 (r1), .parr false (.int .u8 .nil) 1 7 (r2)]))]), (21, smOf [(bpdu_Good_p, fun h k => Gbpdu_Good (gI h 0) (gI h 1) (gI h 2) (gI h 3) (gI h 4) (gI h 5) (gB h 6) (gB h 7) (gB h 8) (gB h 9) (gB h 10) (fun r0 => k (.v (.c (.pv (.val (.bool r0))))) []))])]
def bpdu_Parse_v1_B (Gframe_Good_v2 : Int → Int → Int → Nat → (Nat → Nat → PV) → (Nat → (Nat → Nat → PV) → Option Out) → (Nat → (Nat → Nat → PV) → Option Out) → Option Out) (Gslices_Equal_byte_byte : Nat → (Nat → Nat → PV) → (Nat → Nat → PV) → (Nat → (Nat → Nat → PV) → (Nat → Nat → PV) → Option Out) → (Nat → (Nat → Nat → PV) → (Nat → Nat → PV) → Option Out) → Option Out) (Gbpdu_Good : Int → Int → Int → Int → Int → Int → Bool → Bool → Bool → Bool → Bool → (Bool → Option Out) → Option Out) : Hooks := []
theorem bpdu_Parse_v1_eq (Gframe_Good_v2 : Int → Int → Int → Nat → (Nat → Nat → PV) → (Nat → (Nat → Nat → PV) → Option Out) → (Nat → (Nat → Nat → PV) → Option Out) → Option Out) (Gslices_Equal_byte_byte : Nat → (Nat → Nat → PV) → (Nat → Nat → PV) → (Nat → (Nat → Nat → PV) → (Nat → Nat → PV) → Option Out) → (Nat → (Nat → Nat → PV) → (Nat → Nat → PV) → Option Out) → Option Out) (Gbpdu_Good : Int → Int → Int → Int → Int → Int → Bool → Bool → Bool → Bool → Bool → (Bool → Option Out) → Option Out) (a_1 : Int) (a_2 : Int) (a_3 : Int) (a_4 : Nat) (a_5 : Nat → Nat → PV) (k : FK) : runS tt (has eql) Try.prog.funcs 1152921504606846976 (bpdu_Parse_v1_S Gframe_Good_v2 Gslices_Equal_byte_byte Gbpdu_Good) (bpdu_Parse_v1_B Gframe_Good_v2 Gslices_Equal_byte_byte Gbpdu_Good) (has bor) 40 19 [.v (.agg [.pv (.val (.int .u64 a_1)), .pv (.val (.int .u64 a_2)), .pv (.val (.bool false)), .pv (.val (.int .i64 0)), .pv (.val (.int .i64 0)), .pv (.val (.int .i64 a_3)), .own 0])] [.parr false (.int .u8 .nil) 1 a_4 (a_5)] k = bpdu_Parse_v1_T Gframe_Good_v2 Gslices_Equal_byte_byte Gbpdu_Good a_1 a_2 a_3 a_4 a_5 (fun r0 r1 => k (.tup [.agg [.pv (.val (.int .u64 0)), .pv (.val (.int .u32 0)), .pv (.val (.int .u64 0)), .pv (.val (.int .i64 0)), .pv (.val (.int .i64 0)), .pv (.val (.int .i64 0)), .pv (.val (.bool false)), .pv (.val (.bool false)), .pv (.val (.bool false)), .pv (.val (.bool false)), .pv (.val (.bool false))], .c (.pv (.val (.int .i64 11)))]) [.parr false (.int .u8 .nil) 1 r0 (r1)]) (fun r0 r1 r2 r3 r4 r5 r6 r7 r8 r9 r10 r11 r12 => k (.tup [.agg [.pv (.val (.int .u64 r0)), .pv (.val (.int .u32 r1)), .pv (.val (.int .u64 r2)), .pv (.val (.int .i64 r3)), .pv (.val (.int .i64 r4)), .pv (.val (.int .i64 r5)), .pv (.val (.bool r6)), .pv (.val (.bool r7)), .pv (.val (.bool r8)), .pv (.val (.bool r9)), .pv (.val (.bool r10))], .c (.pv (.val (.int .i64 0)))]) [.parr false (.int .u8 .nil) 1 r11 (r12)]) := by kernel_rfl
def bpdu_Parse_v1_p : PAr := ⟨[.v (.agg [.pv (.int .u64 .h), .pv (.int .u64 .h), .pv (.bool (.l false)), .pv (.int .i64 (.l 0)), .pv (.int .i64 (.l 0)), .pv (.int .i64 .h), .own 0])], [.parr (.l false) (.int .u8 .nil) 1 .h]⟩
def bpdu_Parse_v1_F (h : List Hole) (k : FK) : Option Out := bpdu_Parse_v1 (gI h 0) (gI h 1) (gI h 2) (gN h 3) (gF h 4) (fun r0 r1 => k (.tup [.agg [.pv (.val (.int .u64 0)), .pv (.val (.int .u32 0)), .pv (.val (.int .u64 0)), .pv (.val (.int .i64 0)), .pv (.val (.int .i64 0)), .pv (.val (.int .i64 0)), .pv (.val (.bool false)), .pv (.val (.bool false)), .pv (.val (.bool false)), .pv (.val (.bool false)), .pv (.val (.bool false))], .c (.pv (.val (.int .i64 11)))]) [.parr false (.int .u8 .nil) 1 r0 (r1)]) (fun r0 r1 r2 r3 r4 r5 r6 r7 r8 r9 r10 r11 r12 => k (.tup [.agg [.pv (.val (.int .u64 r0)), .pv (.val (.int .u32 r1)), .pv (.val (.int .u64 r2)), .pv (.val (.int .i64 r3)), .pv (.val (.int .i64 r4)), .pv (.val (.int .i64 r5)), .pv (.val (.bool r6)), .pv (.val (.bool r7)), .pv (.val (.bool r8)), .pv (.val (.bool r9)), .pv (.val (.bool r10))], .c (.pv (.val (.int .i64 0)))]) [.parr false (.int .u8 .nil) 1 r11 (r12)])
theorem bpdu_Parse_v1_at (h : List Hole) : CallAt Try.prog 19 (arFill bpdu_Parse_v1_p h).1 (arFill bpdu_Parse_v1_p h).2 (bpdu_Parse_v1_F h) := by
  have e : arFill bpdu_Parse_v1_p h = ([.v (.agg [.pv (.val (.int .u64 (gI h 0))), .pv (.val (.int .u64 (gI h 1))), .pv (.val (.bool false)), .pv (.val (.int .i64 0)), .pv (.val (.int .i64 0)), .pv (.val (.int .i64 (gI h 2))), .own 0])], [.parr false (.int .u8 .nil) 1 (gN h 3) ((gF h 4))]) := by kernel_rfl
  rw [e]; exact callAt_of (runS_ok ttOk eqOk mixed (names_ok namesOk) (S := bpdu_Parse_v1_S frame_Good_v2 slices_Equal_byte_byte bpdu_Good) (sums_cons yes16_ok (sums_cons (smOf_ok (alts_cons frame_Good_v1_at (alts_cons frame_Good_v2_at (alts_cons frame_Good_at alts_nil)))) (sums_cons (smOf_ok (alts_cons slices_Equal_byte_byte_at alts_nil)) (sums_cons (smOf_ok (alts_cons bpdu_Good_at alts_nil)) (sums_nil))))) (B := bpdu_Parse_v1_B frame_Good_v2 slices_Equal_byte_byte bpdu_Good) (hooks_nil) (has bor) 40) fun k => bpdu_Parse_v1_eq frame_Good_v2 slices_Equal_byte_byte bpdu_Good _ _ _ _ _ k
def e90 (x0 : Int) (x1 : Int) (x2 : Int) (x3 : Int) (x4 : Int) (x5 : Int) (x6 : Int) (x7 : Int) (x8 : Int) (x9 : Int) (x10 : Int) (x11 : Int) (x12 : Bool) (x13 : Bool) (x14 : Bool) (x15 : Bool) (x16 : Bool) (x17 : Bool) (x18 : Bool) (x19 : Bool) (x20 : Bool) (x21 : Bool) : Bool := !((x0 == x1) && ((x2 == x3) && ((x4 == x5) && ((x6 == x7) && ((x8 == x9) && ((x10 == x11) && ((x12 == x13) && ((x14 == x15) && ((x16 == x17) && ((x18 == x19) && (x20 == x21)))))))))))
def e91 (x0 : Int) (x1 : Int) (x2 : Int) (x3 : Int) (x4 : Int) (x5 : Int) (x6 : Int) (x7 : Int) (x8 : Int) (x9 : Int) (x10 : Int) (x11 : Int) (x12 : Bool) (x13 : Bool) (x14 : Bool) (x15 : Bool) (x16 : Bool) (x17 : Bool) (x18 : Bool) (x19 : Bool) (x20 : Bool) (x21 : Bool) : Bool := e90 x0 x1 x2 x3 x4 x5 x6 x7 x8 x9 x10 x11 x12 x13 x14 x15 x16 x17 x18 x19 x20 x21
def e92 (x0 : Int) (x1 : Int) (x2 : Int) (x3 : Int) (x4 : Int) (x5 : Int) (x6 : Int) (x7 : Int) (x8 : Int) (x9 : Int) (x10 : Int) (x11 : Int) (x12 : Bool) (x13 : Bool) (x14 : Bool) (x15 : Bool) (x16 : Bool) (x17 : Bool) (x18 : Bool) (x19 : Bool) (x20 : Bool) (x21 : Bool) : Bool := e91 x0 x1 x2 x3 x4 x5 x6 x7 x8 x9 x10 x11 x12 x13 x14 x15 x16 x17 x18 x19 x20 x21
def e93 (x0 : Nat → Nat → PV) : Nat → Nat → PV := catf 39 (catf 0 (rowOf 1 []) (x0)) (rowOf 1 [.val (.int .u8 1), .val (.int .u8 2), .val (.int .u8 3)])
def e94 (x0 : Nat → Nat → PV) (x1 : Int) (x2 : Int) : Nat → Nat → PV := setf (e93 x0) ((IntKind.i64.wrap (32 + ((IntKind.i64.wrap x1).tmod 7))).toNat) 0 [.val (.int .u8 x2)]
def e95 (x0 : Nat → Nat → PV) (x1 : Int) (x2 : Int) : Int := bits .xor .u8 (numOf ((catf 0 (rowOf 1 []) (x0)) (((IntKind.i64.wrap x1).tmod 7).toNat) 0)) (bits .or .u8 x2 1)
def e96 (x0 : Nat → Nat → PV) (x1 : Int) (x2 : Int) : Nat → Nat → PV := setf (catf 0 (rowOf 1 []) (x0)) (((IntKind.i64.wrap x1).tmod 7).toNat) 0 [.val (.int .u8 (e95 x0 x1 x2))]
def e97 (x0 : Int) (x1 : Int) (x2 : Int) (x3 : Int) (x4 : Int) (x5 : Int) (x6 : Int) (x7 : Int) (x8 : Int) (x9 : Int) (x10 : Int) (x11 : Int) (x12 : Bool) (x13 : Bool) (x14 : Bool) (x15 : Bool) (x16 : Bool) (x17 : Bool) (x18 : Bool) (x19 : Bool) (x20 : Bool) (x21 : Bool) : Bool := ((x0 == x1) && ((x2 == x3) && ((x4 == x5) && ((x6 == x7) && ((x8 == x9) && ((x10 == x11) && ((x12 == x13) && ((x14 == x15) && ((x16 == x17) && ((x18 == x19) && (x20 == x21)))))))))))
def e98 (x0 : Int) (x1 : Int) (x2 : Int) (x3 : Int) (x4 : Int) (x5 : Int) (x6 : Int) (x7 : Int) (x8 : Int) (x9 : Int) (x10 : Int) (x11 : Int) (x12 : Bool) (x13 : Bool) (x14 : Bool) (x15 : Bool) (x16 : Bool) (x17 : Bool) (x18 : Bool) (x19 : Bool) (x20 : Bool) (x21 : Bool) : Bool := e97 x0 x1 x2 x3 x4 x5 x6 x7 x8 x9 x10 x11 x12 x13 x14 x15 x16 x17 x18 x19 x20 x21
def e99 (x0 : Int) (x1 : Int) (x2 : Int) (x3 : Int) (x4 : Int) (x5 : Int) (x6 : Int) (x7 : Int) (x8 : Int) (x9 : Int) (x10 : Int) (x11 : Int) (x12 : Bool) (x13 : Bool) (x14 : Bool) (x15 : Bool) (x16 : Bool) (x17 : Bool) (x18 : Bool) (x19 : Bool) (x20 : Bool) (x21 : Bool) : Bool := e98 x0 x1 x2 x3 x4 x5 x6 x7 x8 x9 x10 x11 x12 x13 x14 x15 x16 x17 x18 x19 x20 x21
/- weirgate/weirgatelaw11.BpduBack -/
def law11_BpduBack_T {α : Type} (Gbpdu_Frame : Int → Int → Int → Int → Int → Int → Int → Bool → Bool → Bool → Bool → Bool → (Option α) → (Int → (Nat → Nat → PV) → Option α) → Option α) (Gframe_Encode : Int → (Nat → Nat → PV) → ((Nat → Nat → PV) → Option α) → ((Nat → Nat → PV) → Option α) → ((Nat → Nat → PV) → Nat → (Nat → Nat → PV) → Option α) → Option α) (Gframe_Parse : Nat → (Nat → Nat → PV) → (Nat → (Nat → Nat → PV) → Option α) → (Int → Int → Int → Int → Int → Nat → (Nat → Nat → PV) → Nat → (Nat → Nat → PV) → Option α) → (Int → Int → Int → Nat → (Nat → Nat → PV) → Nat → (Nat → Nat → PV) → Option α) → Option α) (Gbpdu_Parse : Int → Int → Int → Int → Int → Nat → (Nat → Nat → PV) → (Nat → (Nat → Nat → PV) → Option α) → Option α) (Gbpdu_Parse_v1 : Int → Int → Int → Nat → (Nat → Nat → PV) → (Nat → (Nat → Nat → PV) → Option α) → (Int → Int → Int → Int → Int → Int → Bool → Bool → Bool → Bool → Bool → Nat → (Nat → Nat → PV) → Option α) → Option α) (a_1 : Int) (a_2 : Int) (a_3 : Int) (a_4 : Int) (a_5 : Int) (a_6 : Int) (a_7 : Int) (a_8 : Bool) (a_9 : Bool) (a_10 : Bool) (a_11 : Bool) (a_12 : Bool) (a_13 : Int) (a_14 : Int) (k0 : Option α) (k1 : Option α) : Option α := Gbpdu_Frame a_1 a_2 a_3 a_4 a_5 a_6 a_7 a_8 a_9 a_10 a_11 a_12
  (k0)
  (fun r_15 r_16 => Gframe_Encode r_15 r_16
   (fun r_17 => k1)
   (fun r_17 => k1)
   (fun r_17 r_18 r_19 => Gframe_Parse r_18 r_19
    (fun r_20 r_21 => k1)
    (fun r_20 r_21 r_22 r_23 r_24 r_25 r_26 r_27 r_28 => Gbpdu_Parse r_20 r_21 r_22 r_23 r_24 r_27 r_28
     (fun r_29 r_30 => k1))
    (fun r_20 r_21 r_22 r_23 r_24 r_25 r_26 => Gbpdu_Parse_v1 r_20 r_21 r_22 r_25 r_26
     (fun r_27 r_28 => k1)
     (fun r_27 r_28 r_29 r_30 r_31 r_32 r_33 r_34 r_35 r_36 r_37 r_38 r_39 => bif e92 r_27 a_2 r_28 a_3 r_29 a_4 r_30 a_5 r_31 a_6 r_32 a_7 r_33 a_8 r_34 a_9 r_35 a_10 r_36 a_11 r_37 a_12 then
      k1
     else bif ((r_23 : Int) != 53) then
      k1
     else bif inb (IntKind.i64.wrap (32 + ((IntKind.i64.wrap a_13).tmod 7))) 42 then
      Gbpdu_Parse_v1 1652522221568 r_15 39 42 (e94 r_17 a_13 a_14)
       (fun r_40 r_41 => bif inb ((IntKind.i64.wrap a_13).tmod 7) 39 then
        bif inb ((IntKind.i64.wrap a_13).tmod 7) 39 then
         Gbpdu_Parse_v1 1652522221568 r_15 39 39 (e96 r_17 a_13 a_14)
          (fun r_42 r_43 => k1)
          (fun r_42 r_43 r_44 r_45 r_46 r_47 r_48 r_49 r_50 r_51 r_52 r_53 r_54 => k1)
        else none /- test -/
       else none /- test -/)
       (fun r_40 r_41 r_42 r_43 r_44 r_45 r_46 r_47 r_48 r_49 r_50 r_51 r_52 => bif inb ((IntKind.i64.wrap a_13).tmod 7) 39 then
        bif inb ((IntKind.i64.wrap a_13).tmod 7) 39 then
         Gbpdu_Parse_v1 1652522221568 r_15 39 39 (e96 r_17 a_13 a_14)
          (fun r_53 r_54 => bif e99 r_40 a_2 r_41 a_3 r_42 a_4 r_43 a_5 r_44 a_6 r_45 a_7 r_46 a_8 r_47 a_9 r_48 a_10 r_49 a_11 r_50 a_12 then
           k0
          else k1)
          (fun r_53 r_54 r_55 r_56 r_57 r_58 r_59 r_60 r_61 r_62 r_63 r_64 r_65 => bif e99 r_40 a_2 r_41 a_3 r_42 a_4 r_43 a_5 r_44 a_6 r_45 a_7 r_46 a_8 r_47 a_9 r_48 a_10 r_49 a_11 r_50 a_12 then
           k1
          else k1)
        else none /- test -/
       else none /- test -/)
     else none /- test -/))))
def law11_BpduBack {α : Type} (a_1 : Int) (a_2 : Int) (a_3 : Int) (a_4 : Int) (a_5 : Int) (a_6 : Int) (a_7 : Int) (a_8 : Bool) (a_9 : Bool) (a_10 : Bool) (a_11 : Bool) (a_12 : Bool) (a_13 : Int) (a_14 : Int) (k0 : Option α) (k1 : Option α) : Option α := law11_BpduBack_T bpdu_Frame frame_Encode frame_Parse bpdu_Parse bpdu_Parse_v1 a_1 a_2 a_3 a_4 a_5 a_6 a_7 a_8 a_9 a_10 a_11 a_12 a_13 a_14 k0 k1
def law11_BpduBack_S (Gbpdu_Frame : Int → Int → Int → Int → Int → Int → Int → Bool → Bool → Bool → Bool → Bool → (Option Out) → (Int → (Nat → Nat → PV) → Option Out) → Option Out) (Gframe_Encode : Int → (Nat → Nat → PV) → ((Nat → Nat → PV) → Option Out) → ((Nat → Nat → PV) → Option Out) → ((Nat → Nat → PV) → Nat → (Nat → Nat → PV) → Option Out) → Option Out) (Gframe_Parse : Nat → (Nat → Nat → PV) → (Nat → (Nat → Nat → PV) → Option Out) → (Int → Int → Int → Int → Int → Nat → (Nat → Nat → PV) → Nat → (Nat → Nat → PV) → Option Out) → (Int → Int → Int → Nat → (Nat → Nat → PV) → Nat → (Nat → Nat → PV) → Option Out) → Option Out) (Gbpdu_Parse : Int → Int → Int → Int → Int → Nat → (Nat → Nat → PV) → (Nat → (Nat → Nat → PV) → Option Out) → Option Out) (Gbpdu_Parse_v1 : Int → Int → Int → Nat → (Nat → Nat → PV) → (Nat → (Nat → Nat → PV) → Option Out) → (Int → Int → Int → Int → Int → Int → Bool → Bool → Bool → Bool → Bool → Nat → (Nat → Nat → PV) → Option Out) → Option Out) : List (Nat × Sm) := [(16, yes), (17, smOf [(bpdu_Frame_p, fun h k => Gbpdu_Frame (gI h 0) (gI h 1) (gI h 2) (gI h 3) (gI h 4) (gI h 5) (gI h 6) (gB h 7) (gB h 8) (gB h 9) (gB h 10) (gB h 11) (k (.tup [.agg [.pv (.val (.int .u64 0)), .pv (.val (.int .u64 0)), .pv (.val (.bool false)), .pv (.val (.int .i64 0)), .pv (.val (.int .i64 0)), .pv (.val (.int .i64 0)), .pv (.val (.slice none 0 0))], .c (.pv (.val (.int .i64 11)))]) []) (fun r0 r1 => k (.tup [.agg [.pv (.val (.int .u64 1652522221568)), .pv (.val (.int .u64 r0)), .pv (.val (.bool false)), .pv (.val (.int .i64 0)), .pv (.val (.int .i64 0)), .pv (.val (.int .i64 39)), .own 0], .c (.pv (.val (.int .i64 0)))]) [.parr false (.int .u8 .nil) 1 39 (r1)]))]), (26, smOf [(frame_Encode_p, fun h k => Gframe_Encode (gI h 0) (gF h 1) (fun r0 => k (.tup [.c (.pv (.val (.slice none 0 0))), .c (.pv (.val (.int .i64 11)))]) [.parr false (.int .u8 .nil) 1 39 (r0)]) (fun r0 => k (.tup [.c (.pv (.val (.slice none 0 0))), .c (.pv (.val (.int .i64 0)))]) [.parr true (.int .u8 .nil) 1 39 (r0)]) (fun r0 r1 r2 => k (.tup [.c (.own 1), .c (.pv (.val (.int .i64 0)))]) [.parr true (.int .u8 .nil) 1 39 (r0), .parr false (.int .u8 .nil) 1 r1 (r2)]))]), (29, smOf [(frame_Parse_p, fun h k => Gframe_Parse (gN h 0) (gF h 1) (fun r0 r1 => k (.tup [.agg [.pv (.val (.int .u64 0)), .pv (.val (.int .u64 0)), .pv (.val (.bool false)), .pv (.val (.int .i64 0)), .pv (.val (.int .i64 0)), .pv (.val (.int .i64 0)), .pv (.val (.slice none 0 0))], .c (.pv (.val (.int .i64 11)))]) [.parr false (.int .u8 .nil) 1 r0 (r1)]) (fun r0 r1 r2 r3 r4 r5 r6 r7 r8 => k (.tup [.agg [.pv (.val (.int .u64 r0)), .pv (.val (.int .u64 r1)), .pv (.val (.bool true)), .pv (.val (.int .i64 r2)), .pv (.val (.int .i64 r3)), .pv (.val (.int .i64 r4)), .own 1], .c (.pv (.val (.int .i64 0)))]) [.parr false (.int .u8 .nil) 1 r5 (r6), .parr false (.int .u8 .nil) 1 r7 (r8)]) (fun r0 r1 r2 r3 r4 r5 r6 => k (.tup [.agg [.pv (.val (.int .u64 r0)), .pv (.val (.int .u64 r1)), .pv (.val (.bool false)), .pv (.val (.int .i64 0)), .pv (.val (.int .i64 0)), .pv (.val (.int .i64 r2)), .own 1], .c (.pv (.val (.int .i64 0)))]) [.parr false (.int .u8 .nil) 1 r3 (r4), .parr false (.int .u8 .nil) 1 r5 (r6)]))]), (19, smOf [(bpdu_Parse_p, fun h k => Gbpdu_Parse (gI h 0) (gI h 1) (gI h 2) (gI h 3) (gI h 4) (gN h 5) (gF h 6) (fun r0 r1 => k (.tup [.agg [.pv (.val (.int .u64 0)), .pv (.val (.int .u32 0)), .pv (.val (.int .u64 0)), .pv (.val (.int .i64 0)), .pv (.val (.int .i64 0)), .pv (.val (.int .i64 0)), .pv (.val (.bool false)), .pv (.val (.bool false)), .pv (.val (.bool false)), .pv (.val (.bool false)), .pv (.val (.bool false))], .c (.pv (.val (.int .i64 11)))]) [.parr false (.int .u8 .nil) 1 r0 (r1)])), (bpdu_Parse_v1_p, fun h k => Gbpdu_Parse_v1 (gI h 0) (gI h 1) (gI h 2) (gN h 3) (gF h 4) (fun r0 r1 => k (.tup [.agg [.pv (.val (.int .u64 0)), .pv (.val (.int .u32 0)), .pv (.val (.int .u64 0)), .pv (.val (.int .i64 0)), .pv (.val (.int .i64 0)), .pv (.val (.int .i64 0)), .pv (.val (.bool false)), .pv (.val (.bool false)), .pv (.val (.bool false)), .pv (.val (.bool false)), .pv (.val (.bool false))], .c (.pv (.val (.int .i64 11)))]) [.parr false (.int .u8 .nil) 1 r0 (r1)]) (fun r0 r1 r2 r3 r4 r5 r6 r7 r8 r9 r10 r11 r12 => k (.tup [.agg [.pv (.val (.int .u64 r0)), .pv (.val (.int .u32 r1)), .pv (.val (.int .u64 r2)), .pv (.val (.int .i64 r3)), .pv (.val (.int .i64 r4)), .pv (.val (.int .i64 r5)), .pv (.val (.bool r6)), .pv (.val (.bool r7)), .pv (.val (.bool r8)), .pv (.val (.bool r9)), .pv (.val (.bool r10))], .c (.pv (.val (.int .i64 0)))]) [.parr false (.int .u8 .nil) 1 r11 (r12)]))])]
def law11_BpduBack_B (Gbpdu_Frame : Int → Int → Int → Int → Int → Int → Int → Bool → Bool → Bool → Bool → Bool → (Option Out) → (Int → (Nat → Nat → PV) → Option Out) → Option Out) (Gframe_Encode : Int → (Nat → Nat → PV) → ((Nat → Nat → PV) → Option Out) → ((Nat → Nat → PV) → Option Out) → ((Nat → Nat → PV) → Nat → (Nat → Nat → PV) → Option Out) → Option Out) (Gframe_Parse : Nat → (Nat → Nat → PV) → (Nat → (Nat → Nat → PV) → Option Out) → (Int → Int → Int → Int → Int → Nat → (Nat → Nat → PV) → Nat → (Nat → Nat → PV) → Option Out) → (Int → Int → Int → Nat → (Nat → Nat → PV) → Nat → (Nat → Nat → PV) → Option Out) → Option Out) (Gbpdu_Parse : Int → Int → Int → Int → Int → Nat → (Nat → Nat → PV) → (Nat → (Nat → Nat → PV) → Option Out) → Option Out) (Gbpdu_Parse_v1 : Int → Int → Int → Nat → (Nat → Nat → PV) → (Nat → (Nat → Nat → PV) → Option Out) → (Int → Int → Int → Int → Int → Int → Bool → Bool → Bool → Bool → Bool → Nat → (Nat → Nat → PV) → Option Out) → Option Out) : Hooks := []
theorem law11_BpduBack_eq (Gbpdu_Frame : Int → Int → Int → Int → Int → Int → Int → Bool → Bool → Bool → Bool → Bool → (Option Out) → (Int → (Nat → Nat → PV) → Option Out) → Option Out) (Gframe_Encode : Int → (Nat → Nat → PV) → ((Nat → Nat → PV) → Option Out) → ((Nat → Nat → PV) → Option Out) → ((Nat → Nat → PV) → Nat → (Nat → Nat → PV) → Option Out) → Option Out) (Gframe_Parse : Nat → (Nat → Nat → PV) → (Nat → (Nat → Nat → PV) → Option Out) → (Int → Int → Int → Int → Int → Nat → (Nat → Nat → PV) → Nat → (Nat → Nat → PV) → Option Out) → (Int → Int → Int → Nat → (Nat → Nat → PV) → Nat → (Nat → Nat → PV) → Option Out) → Option Out) (Gbpdu_Parse : Int → Int → Int → Int → Int → Nat → (Nat → Nat → PV) → (Nat → (Nat → Nat → PV) → Option Out) → Option Out) (Gbpdu_Parse_v1 : Int → Int → Int → Nat → (Nat → Nat → PV) → (Nat → (Nat → Nat → PV) → Option Out) → (Int → Int → Int → Int → Int → Int → Bool → Bool → Bool → Bool → Bool → Nat → (Nat → Nat → PV) → Option Out) → Option Out) (a_1 : Int) (a_2 : Int) (a_3 : Int) (a_4 : Int) (a_5 : Int) (a_6 : Int) (a_7 : Int) (a_8 : Bool) (a_9 : Bool) (a_10 : Bool) (a_11 : Bool) (a_12 : Bool) (a_13 : Int) (a_14 : Int) (k : FK) : runS tt (has eql) Try.prog.funcs 1152921504606846976 (law11_BpduBack_S Gbpdu_Frame Gframe_Encode Gframe_Parse Gbpdu_Parse Gbpdu_Parse_v1) (law11_BpduBack_B Gbpdu_Frame Gframe_Encode Gframe_Parse Gbpdu_Parse Gbpdu_Parse_v1) (has bor) 40 9 [.v (.c (.pv (.val (.int .u64 a_1)))), .v (.agg [.pv (.val (.int .u64 a_2)), .pv (.val (.int .u32 a_3)), .pv (.val (.int .u64 a_4)), .pv (.val (.int .i64 a_5)), .pv (.val (.int .i64 a_6)), .pv (.val (.int .i64 a_7)), .pv (.val (.bool a_8)), .pv (.val (.bool a_9)), .pv (.val (.bool a_10)), .pv (.val (.bool a_11)), .pv (.val (.bool a_12))]), .v (.agg [.pv (.val (.int .u8 a_13)), .pv (.val (.int .u8 a_14))])] [] k = law11_BpduBack_T Gbpdu_Frame Gframe_Encode Gframe_Parse Gbpdu_Parse Gbpdu_Parse_v1 a_1 a_2 a_3 a_4 a_5 a_6 a_7 a_8 a_9 a_10 a_11 a_12 a_13 a_14 (k (.v (.c (.pv (.val (.bool true))))) []) (k (.v (.c (.pv (.val (.bool false))))) []) := by kernel_rfl
def law11_BpduBack_p : PAr := ⟨[.v (.c (.pv (.int .u64 .h))), .v (.agg [.pv (.int .u64 .h), .pv (.int .u32 .h), .pv (.int .u64 .h), .pv (.int .i64 .h), .pv (.int .i64 .h), .pv (.int .i64 .h), .pv (.bool .h), .pv (.bool .h), .pv (.bool .h), .pv (.bool .h), .pv (.bool .h)]), .v (.agg [.pv (.int .u8 .h), .pv (.int .u8 .h)])], []⟩
def law11_BpduBack_F (h : List Hole) (k : FK) : Option Out := law11_BpduBack (gI h 0) (gI h 1) (gI h 2) (gI h 3) (gI h 4) (gI h 5) (gI h 6) (gB h 7) (gB h 8) (gB h 9) (gB h 10) (gB h 11) (gI h 12) (gI h 13) (k (.v (.c (.pv (.val (.bool true))))) []) (k (.v (.c (.pv (.val (.bool false))))) [])
theorem law11_BpduBack_at (h : List Hole) : CallAt Try.prog 9 (arFill law11_BpduBack_p h).1 (arFill law11_BpduBack_p h).2 (law11_BpduBack_F h) := by
  have e : arFill law11_BpduBack_p h = ([.v (.c (.pv (.val (.int .u64 (gI h 0))))), .v (.agg [.pv (.val (.int .u64 (gI h 1))), .pv (.val (.int .u32 (gI h 2))), .pv (.val (.int .u64 (gI h 3))), .pv (.val (.int .i64 (gI h 4))), .pv (.val (.int .i64 (gI h 5))), .pv (.val (.int .i64 (gI h 6))), .pv (.val (.bool (gB h 7))), .pv (.val (.bool (gB h 8))), .pv (.val (.bool (gB h 9))), .pv (.val (.bool (gB h 10))), .pv (.val (.bool (gB h 11)))]), .v (.agg [.pv (.val (.int .u8 (gI h 12))), .pv (.val (.int .u8 (gI h 13)))])], []) := by kernel_rfl
  rw [e]; exact callAt_of (runS_ok ttOk eqOk mixed (names_ok namesOk) (S := law11_BpduBack_S bpdu_Frame frame_Encode frame_Parse bpdu_Parse bpdu_Parse_v1) (sums_cons yes16_ok (sums_cons (smOf_ok (alts_cons bpdu_Frame_at alts_nil)) (sums_cons (smOf_ok (alts_cons frame_Encode_at alts_nil)) (sums_cons (smOf_ok (alts_cons frame_Parse_at alts_nil)) (sums_cons (smOf_ok (alts_cons bpdu_Parse_at (alts_cons bpdu_Parse_v1_at alts_nil))) (sums_nil)))))) (B := law11_BpduBack_B bpdu_Frame frame_Encode frame_Parse bpdu_Parse bpdu_Parse_v1) (hooks_nil) (has bor) 40) fun k => law11_BpduBack_eq bpdu_Frame frame_Encode frame_Parse bpdu_Parse bpdu_Parse_v1 _ _ _ _ _ _ _ _ _ _ _ _ _ _ k
theorem call_ok : CallSem Try.prog (runS tt (has eql) Try.prog.funcs 1152921504606846976 (law11_BpduBack_S bpdu_Frame frame_Encode frame_Parse bpdu_Parse bpdu_Parse_v1) (law11_BpduBack_B bpdu_Frame frame_Encode frame_Parse bpdu_Parse bpdu_Parse_v1) (has bor) 40) := runS_ok ttOk eqOk mixed (names_ok namesOk) (S := law11_BpduBack_S bpdu_Frame frame_Encode frame_Parse bpdu_Parse bpdu_Parse_v1) (sums_cons yes16_ok (sums_cons (smOf_ok (alts_cons bpdu_Frame_at alts_nil)) (sums_cons (smOf_ok (alts_cons frame_Encode_at alts_nil)) (sums_cons (smOf_ok (alts_cons frame_Parse_at alts_nil)) (sums_cons (smOf_ok (alts_cons bpdu_Parse_at (alts_cons bpdu_Parse_v1_at alts_nil))) (sums_nil)))))) (B := law11_BpduBack_B bpdu_Frame frame_Encode frame_Parse bpdu_Parse bpdu_Parse_v1) (hooks_nil) (has bor) 40
theorem law_eq (a_1 : Int) (a_2 : Int) (a_3 : Int) (a_4 : Int) (a_5 : Int) (a_6 : Int) (a_7 : Int) (a_8 : Bool) (a_9 : Bool) (a_10 : Bool) (a_11 : Bool) (a_12 : Bool) (a_13 : Int) (a_14 : Int) (k : FK) : runS tt (has eql) Try.prog.funcs 1152921504606846976 (law11_BpduBack_S bpdu_Frame frame_Encode frame_Parse bpdu_Parse bpdu_Parse_v1) (law11_BpduBack_B bpdu_Frame frame_Encode frame_Parse bpdu_Parse bpdu_Parse_v1) (has bor) 40 9 [.v (.c (.pv (.val (.int .u64 a_1)))), .v (.agg [.pv (.val (.int .u64 a_2)), .pv (.val (.int .u32 a_3)), .pv (.val (.int .u64 a_4)), .pv (.val (.int .i64 a_5)), .pv (.val (.int .i64 a_6)), .pv (.val (.int .i64 a_7)), .pv (.val (.bool a_8)), .pv (.val (.bool a_9)), .pv (.val (.bool a_10)), .pv (.val (.bool a_11)), .pv (.val (.bool a_12))]), .v (.agg [.pv (.val (.int .u8 a_13)), .pv (.val (.int .u8 a_14))])] [] k = law11_BpduBack a_1 a_2 a_3 a_4 a_5 a_6 a_7 a_8 a_9 a_10 a_11 a_12 a_13 a_14 (k (.v (.c (.pv (.val (.bool true))))) []) (k (.v (.c (.pv (.val (.bool false))))) []) := law11_BpduBack_eq bpdu_Frame frame_Encode frame_Parse bpdu_Parse bpdu_Parse_v1 a_1 a_2 a_3 a_4 a_5 a_6 a_7 a_8 a_9 a_10 a_11 a_12 a_13 a_14 k
end Go.Proofs.Ytampnnhdgnhjaaa.BpduBack

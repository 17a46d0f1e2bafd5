/- BpduFrames: the code of the law and of all that it calls, told by functions over numbers and rows. WRITTEN BY gen.py. -/
import Derived.Test.YtampnnhdgnhjaaaSeat
set_option linter.unusedVariables false
namespace Go.Proofs.Ytampnnhdgnhjaaa.BpduFrames
open Go.Ve
set_option maxRecDepth 100000
theorem wakes_eq (k : AV → List AObj → Option Out) : runS tt (has eql) Try.prog.funcs 100000 [] [] (has bor) 40 16 [] [] k = k (.b true) [] := by kernel_rfl
theorem yes16_ok : SumOk Try.prog 16 yes := SumOk.yes (runS_ok ttOk eqOk mixed (names_ok namesOk) sums_nil hooks_nil (has bor) 40) wakes_eq
/- weirgate/bpdu.Good -/
def bpdu_Good_T {α : Type}  (a_1 : Int) (a_2 : Int) (a_3 : Int) (a_4 : Int) (a_5 : Int) (a_6 : Int) (a_7 : Bool) (a_8 : Bool) (a_9 : Bool) (a_10 : Bool) (a_11 : Bool) (k0 : Bool → Option α) : Option α := bif decide (a_5 ≥ 0) then
  bif decide (a_5 ≤ 65535) then
   bif decide (a_4 ≥ 0) then
    bif decide (a_4 ≤ 65535) then
     bif decide (a_6 ≥ 1) then
      k0 (decide (a_6 ≤ 3))
     else k0 false
    else k0 false
   else k0 false
  else k0 false
 else k0 false
def bpdu_Good {α : Type} (a_1 : Int) (a_2 : Int) (a_3 : Int) (a_4 : Int) (a_5 : Int) (a_6 : Int) (a_7 : Bool) (a_8 : Bool) (a_9 : Bool) (a_10 : Bool) (a_11 : Bool) (k0 : Bool → Option α) : Option α := bpdu_Good_T  a_1 a_2 a_3 a_4 a_5 a_6 a_7 a_8 a_9 a_10 a_11 k0
def bpdu_Good_S  : List (Nat × Sm) := [(16, yes)]
def bpdu_Good_B  : Hooks := []
theorem bpdu_Good_eq  (a_1 : Int) (a_2 : Int) (a_3 : Int) (a_4 : Int) (a_5 : Int) (a_6 : Int) (a_7 : Bool) (a_8 : Bool) (a_9 : Bool) (a_10 : Bool) (a_11 : Bool) (k : FK) : runS tt (has eql) Try.prog.funcs 1152921504606846976 (bpdu_Good_S ) (bpdu_Good_B ) (has bor) 40 21 [.v (.agg [.pv (.val (.int .u64 a_1)), .pv (.val (.int .u32 a_2)), .pv (.val (.int .u64 a_3)), .pv (.val (.int .i64 a_4)), .pv (.val (.int .i64 a_5)), .pv (.val (.int .i64 a_6)), .pv (.val (.bool a_7)), .pv (.val (.bool a_8)), .pv (.val (.bool a_9)), .pv (.val (.bool a_10)), .pv (.val (.bool a_11))])] [] k = bpdu_Good_T  a_1 a_2 a_3 a_4 a_5 a_6 a_7 a_8 a_9 a_10 a_11 (fun r0 => k (.v (.c (.pv (.val (.bool r0))))) []) := by kernel_rfl
def bpdu_Good_p : PAr := ⟨[.v (.agg [.pv (.int .u64 .h), .pv (.int .u32 .h), .pv (.int .u64 .h), .pv (.int .i64 .h), .pv (.int .i64 .h), .pv (.int .i64 .h), .pv (.bool .h), .pv (.bool .h), .pv (.bool .h), .pv (.bool .h), .pv (.bool .h)])], []⟩
def bpdu_Good_F (h : List Hole) (k : FK) : Option Out := bpdu_Good (gI h 0) (gI h 1) (gI h 2) (gI h 3) (gI h 4) (gI h 5) (gB h 6) (gB h 7) (gB h 8) (gB h 9) (gB h 10) (fun r0 => k (.v (.c (.pv (.val (.bool r0))))) [])
theorem bpdu_Good_at (h : List Hole) : CallAt Try.prog 21 (arFill bpdu_Good_p h).1 (arFill bpdu_Good_p h).2 (bpdu_Good_F h) := by
  have e : arFill bpdu_Good_p h = ([.v (.agg [.pv (.val (.int .u64 (gI h 0))), .pv (.val (.int .u32 (gI h 1))), .pv (.val (.int .u64 (gI h 2))), .pv (.val (.int .i64 (gI h 3))), .pv (.val (.int .i64 (gI h 4))), .pv (.val (.int .i64 (gI h 5))), .pv (.val (.bool (gB h 6))), .pv (.val (.bool (gB h 7))), .pv (.val (.bool (gB h 8))), .pv (.val (.bool (gB h 9))), .pv (.val (.bool (gB h 10)))])], []) := by kernel_rfl
  rw [e]; exact callAt_of (runS_ok ttOk eqOk mixed (names_ok namesOk) (S := bpdu_Good_S ) (sums_cons yes16_ok (sums_nil)) (B := bpdu_Good_B ) (hooks_nil) (has bor) 40) fun k => bpdu_Good_eq  _ _ _ _ _ _ _ _ _ _ _ k
/- weirgate/mac.Group -/
def mac_Group_T {α : Type}  (a_1 : Int) (k0 : Bool → Option α) : Option α := bif ((shrI .u64 a_1 48) == 0) then
  k0 ((bits .and .u64 (shrI .u64 a_1 40) 1) == 1)
 else k0 false
def mac_Group {α : Type} (a_1 : Int) (k0 : Bool → Option α) : Option α := mac_Group_T  a_1 k0
def mac_Group_S  : List (Nat × Sm) := [(16, yes)]
def mac_Group_B  : Hooks := []
theorem mac_Group_eq  (a_1 : Int) (k : FK) : runS tt (has eql) Try.prog.funcs 1152921504606846976 (mac_Group_S ) (mac_Group_B ) (has bor) 40 56 [.v (.c (.pv (.val (.int .u64 a_1))))] [] k = mac_Group_T  a_1 (fun r0 => k (.v (.c (.pv (.val (.bool r0))))) []) := by kernel_rfl
def mac_Group_p : PAr := ⟨[.v (.c (.pv (.int .u64 .h)))], []⟩
def mac_Group_F (h : List Hole) (k : FK) : Option Out := mac_Group (gI h 0) (fun r0 => k (.v (.c (.pv (.val (.bool r0))))) [])
theorem mac_Group_at (h : List Hole) : CallAt Try.prog 56 (arFill mac_Group_p h).1 (arFill mac_Group_p h).2 (mac_Group_F h) := by
  have e : arFill mac_Group_p h = ([.v (.c (.pv (.val (.int .u64 (gI h 0)))))], []) := by kernel_rfl
  rw [e]; exact callAt_of (runS_ok ttOk eqOk mixed (names_ok namesOk) (S := mac_Group_S ) (sums_cons yes16_ok (sums_nil)) (B := mac_Group_B ) (hooks_nil) (has bor) 40) fun k => mac_Group_eq  _ k
def e1 : Nat → Nat → PV := rowOf 1 [.val (.int .u8 66), .val (.int .u8 66), .val (.int .u8 3), .val (.int .u8 0), .val (.int .u8 0), .val (.int .u8 2), .val (.int .u8 2)]
/- weirgate/bpdu.flag -/
def bpdu_flag_T {α : Type}  (a_1 : Bool) (k0 : Int → Option α) : Option α := bif a_1 then
  k0 1
 else k0 0
def bpdu_flag {α : Type} (a_1 : Bool) (k0 : Int → Option α) : Option α := bpdu_flag_T  a_1 k0
def bpdu_flag_S  : List (Nat × Sm) := [(16, yes)]
def bpdu_flag_B  : Hooks := []
theorem bpdu_flag_eq  (a_1 : Bool) (k : FK) : runS tt (has eql) Try.prog.funcs 1152921504606846976 (bpdu_flag_S ) (bpdu_flag_B ) (has bor) 40 96 [.v (.c (.pv (.val (.bool a_1)))), .v (.c (.pv (.val (.int .u8 1))))] [] k = bpdu_flag_T  a_1 (fun r0 => k (.v (.c (.pv (.val (.int .u8 r0))))) []) := by kernel_rfl
def bpdu_flag_p : PAr := ⟨[.v (.c (.pv (.bool .h))), .v (.c (.pv (.int .u8 (.l 1))))], []⟩
def bpdu_flag_F (h : List Hole) (k : FK) : Option Out := bpdu_flag (gB h 0) (fun r0 => k (.v (.c (.pv (.val (.int .u8 r0))))) [])
theorem bpdu_flag_at (h : List Hole) : CallAt Try.prog 96 (arFill bpdu_flag_p h).1 (arFill bpdu_flag_p h).2 (bpdu_flag_F h) := by
  have e : arFill bpdu_flag_p h = ([.v (.c (.pv (.val (.bool (gB h 0))))), .v (.c (.pv (.val (.int .u8 1))))], []) := by kernel_rfl
  rw [e]; exact callAt_of (runS_ok ttOk eqOk mixed (names_ok namesOk) (S := bpdu_flag_S ) (sums_cons yes16_ok (sums_nil)) (B := bpdu_flag_B ) (hooks_nil) (has bor) 40) fun k => bpdu_flag_eq  _ k
/- weirgate/bpdu.flag -/
def bpdu_flag_v1_T {α : Type}  (a_1 : Bool) (k0 : Int → Option α) : Option α := bif a_1 then
  k0 2
 else k0 0
def bpdu_flag_v1 {α : Type} (a_1 : Bool) (k0 : Int → Option α) : Option α := bpdu_flag_v1_T  a_1 k0
def bpdu_flag_v1_S  : List (Nat × Sm) := [(16, yes)]
def bpdu_flag_v1_B  : Hooks := []
theorem bpdu_flag_v1_eq  (a_1 : Bool) (k : FK) : runS tt (has eql) Try.prog.funcs 1152921504606846976 (bpdu_flag_v1_S ) (bpdu_flag_v1_B ) (has bor) 40 96 [.v (.c (.pv (.val (.bool a_1)))), .v (.c (.pv (.val (.int .u8 2))))] [] k = bpdu_flag_v1_T  a_1 (fun r0 => k (.v (.c (.pv (.val (.int .u8 r0))))) []) := by kernel_rfl
def bpdu_flag_v1_p : PAr := ⟨[.v (.c (.pv (.bool .h))), .v (.c (.pv (.int .u8 (.l 2))))], []⟩
def bpdu_flag_v1_F (h : List Hole) (k : FK) : Option Out := bpdu_flag_v1 (gB h 0) (fun r0 => k (.v (.c (.pv (.val (.int .u8 r0))))) [])
theorem bpdu_flag_v1_at (h : List Hole) : CallAt Try.prog 96 (arFill bpdu_flag_v1_p h).1 (arFill bpdu_flag_v1_p h).2 (bpdu_flag_v1_F h) := by
  have e : arFill bpdu_flag_v1_p h = ([.v (.c (.pv (.val (.bool (gB h 0))))), .v (.c (.pv (.val (.int .u8 2))))], []) := by kernel_rfl
  rw [e]; exact callAt_of (runS_ok ttOk eqOk mixed (names_ok namesOk) (S := bpdu_flag_v1_S ) (sums_cons yes16_ok (sums_nil)) (B := bpdu_flag_v1_B ) (hooks_nil) (has bor) 40) fun k => bpdu_flag_v1_eq  _ k
/- weirgate/bpdu.flag -/
def bpdu_flag_v2_T {α : Type}  (a_1 : Bool) (k0 : Int → Option α) : Option α := bif a_1 then
  k0 16
 else k0 0
def bpdu_flag_v2 {α : Type} (a_1 : Bool) (k0 : Int → Option α) : Option α := bpdu_flag_v2_T  a_1 k0
def bpdu_flag_v2_S  : List (Nat × Sm) := [(16, yes)]
def bpdu_flag_v2_B  : Hooks := []
theorem bpdu_flag_v2_eq  (a_1 : Bool) (k : FK) : runS tt (has eql) Try.prog.funcs 1152921504606846976 (bpdu_flag_v2_S ) (bpdu_flag_v2_B ) (has bor) 40 96 [.v (.c (.pv (.val (.bool a_1)))), .v (.c (.pv (.val (.int .u8 16))))] [] k = bpdu_flag_v2_T  a_1 (fun r0 => k (.v (.c (.pv (.val (.int .u8 r0))))) []) := by kernel_rfl
def bpdu_flag_v2_p : PAr := ⟨[.v (.c (.pv (.bool .h))), .v (.c (.pv (.int .u8 (.l 16))))], []⟩
def bpdu_flag_v2_F (h : List Hole) (k : FK) : Option Out := bpdu_flag_v2 (gB h 0) (fun r0 => k (.v (.c (.pv (.val (.int .u8 r0))))) [])
theorem bpdu_flag_v2_at (h : List Hole) : CallAt Try.prog 96 (arFill bpdu_flag_v2_p h).1 (arFill bpdu_flag_v2_p h).2 (bpdu_flag_v2_F h) := by
  have e : arFill bpdu_flag_v2_p h = ([.v (.c (.pv (.val (.bool (gB h 0))))), .v (.c (.pv (.val (.int .u8 16))))], []) := by kernel_rfl
  rw [e]; exact callAt_of (runS_ok ttOk eqOk mixed (names_ok namesOk) (S := bpdu_flag_v2_S ) (sums_cons yes16_ok (sums_nil)) (B := bpdu_flag_v2_B ) (hooks_nil) (has bor) 40) fun k => bpdu_flag_v2_eq  _ k
def e2 (x0 : Int) (x1 : Int) (x2 : Int) (x3 : Int) : Int := bits .or .u8 (bits .or .u8 (bits .or .u8 x0 x1) (shlI .u8 (IntKind.u8.wrap x2) 2)) x3
/- weirgate/bpdu.flag -/
def bpdu_flag_v3_T {α : Type}  (a_1 : Bool) (k0 : Int → Option α) : Option α := bif a_1 then
  k0 32
 else k0 0
def bpdu_flag_v3 {α : Type} (a_1 : Bool) (k0 : Int → Option α) : Option α := bpdu_flag_v3_T  a_1 k0
def bpdu_flag_v3_S  : List (Nat × Sm) := [(16, yes)]
def bpdu_flag_v3_B  : Hooks := []
theorem bpdu_flag_v3_eq  (a_1 : Bool) (k : FK) : runS tt (has eql) Try.prog.funcs 1152921504606846976 (bpdu_flag_v3_S ) (bpdu_flag_v3_B ) (has bor) 40 96 [.v (.c (.pv (.val (.bool a_1)))), .v (.c (.pv (.val (.int .u8 32))))] [] k = bpdu_flag_v3_T  a_1 (fun r0 => k (.v (.c (.pv (.val (.int .u8 r0))))) []) := by kernel_rfl
def bpdu_flag_v3_p : PAr := ⟨[.v (.c (.pv (.bool .h))), .v (.c (.pv (.int .u8 (.l 32))))], []⟩
def bpdu_flag_v3_F (h : List Hole) (k : FK) : Option Out := bpdu_flag_v3 (gB h 0) (fun r0 => k (.v (.c (.pv (.val (.int .u8 r0))))) [])
theorem bpdu_flag_v3_at (h : List Hole) : CallAt Try.prog 96 (arFill bpdu_flag_v3_p h).1 (arFill bpdu_flag_v3_p h).2 (bpdu_flag_v3_F h) := by
  have e : arFill bpdu_flag_v3_p h = ([.v (.c (.pv (.val (.bool (gB h 0))))), .v (.c (.pv (.val (.int .u8 32))))], []) := by kernel_rfl
  rw [e]; exact callAt_of (runS_ok ttOk eqOk mixed (names_ok namesOk) (S := bpdu_flag_v3_S ) (sums_cons yes16_ok (sums_nil)) (B := bpdu_flag_v3_B ) (hooks_nil) (has bor) 40) fun k => bpdu_flag_v3_eq  _ k
/- weirgate/bpdu.flag -/
def bpdu_flag_v4_T {α : Type}  (a_1 : Bool) (k0 : Int → Option α) : Option α := bif a_1 then
  k0 64
 else k0 0
def bpdu_flag_v4 {α : Type} (a_1 : Bool) (k0 : Int → Option α) : Option α := bpdu_flag_v4_T  a_1 k0
def bpdu_flag_v4_S  : List (Nat × Sm) := [(16, yes)]
def bpdu_flag_v4_B  : Hooks := []
theorem bpdu_flag_v4_eq  (a_1 : Bool) (k : FK) : runS tt (has eql) Try.prog.funcs 1152921504606846976 (bpdu_flag_v4_S ) (bpdu_flag_v4_B ) (has bor) 40 96 [.v (.c (.pv (.val (.bool a_1)))), .v (.c (.pv (.val (.int .u8 64))))] [] k = bpdu_flag_v4_T  a_1 (fun r0 => k (.v (.c (.pv (.val (.int .u8 r0))))) []) := by kernel_rfl
def bpdu_flag_v4_p : PAr := ⟨[.v (.c (.pv (.bool .h))), .v (.c (.pv (.int .u8 (.l 64))))], []⟩
def bpdu_flag_v4_F (h : List Hole) (k : FK) : Option Out := bpdu_flag_v4 (gB h 0) (fun r0 => k (.v (.c (.pv (.val (.int .u8 r0))))) [])
theorem bpdu_flag_v4_at (h : List Hole) : CallAt Try.prog 96 (arFill bpdu_flag_v4_p h).1 (arFill bpdu_flag_v4_p h).2 (bpdu_flag_v4_F h) := by
  have e : arFill bpdu_flag_v4_p h = ([.v (.c (.pv (.val (.bool (gB h 0))))), .v (.c (.pv (.val (.int .u8 64))))], []) := by kernel_rfl
  rw [e]; exact callAt_of (runS_ok ttOk eqOk mixed (names_ok namesOk) (S := bpdu_flag_v4_S ) (sums_cons yes16_ok (sums_nil)) (B := bpdu_flag_v4_B ) (hooks_nil) (has bor) 40) fun k => bpdu_flag_v4_eq  _ k
def e3 (x0 : Int) (x1 : Int) (x2 : Int) (x3 : Int) (x4 : Int) (x5 : Int) : Int := shrI .u64 (IntKind.u64.wrap (bits .or .u8 (bits .or .u8 (e2 x0 x1 x2 x3) x4) x5)) 0
def e4 (x0 : Int) (x1 : Int) (x2 : Int) (x3 : Int) (x4 : Int) (x5 : Int) : Nat → Nat → PV := catf 7 (e1) (rowOf 1 [.val (.int .u8 (IntKind.u8.wrap (e3 x0 x1 x2 x3 x4 x5)))])
def e5 (x0 : Nat → Nat → PV) (x1 : Int) : Nat → Nat → PV := catf 9 (catf 8 (x0) (rowOf 1 [.val (.int .u8 (IntKind.u8.wrap (shrI .u64 x1 56)))])) (rowOf 1 [.val (.int .u8 (IntKind.u8.wrap (shrI .u64 x1 48)))])
def e6 (x0 : Nat → Nat → PV) (x1 : Int) : Nat → Nat → PV := catf 11 (catf 10 (e5 x0 x1) (rowOf 1 [.val (.int .u8 (IntKind.u8.wrap (shrI .u64 x1 40)))])) (rowOf 1 [.val (.int .u8 (IntKind.u8.wrap (shrI .u64 x1 32)))])
def e7 (x0 : Nat → Nat → PV) (x1 : Int) : Nat → Nat → PV := catf 13 (catf 12 (e6 x0 x1) (rowOf 1 [.val (.int .u8 (IntKind.u8.wrap (shrI .u64 x1 24)))])) (rowOf 1 [.val (.int .u8 (IntKind.u8.wrap (shrI .u64 x1 16)))])
def e8 (x0 : Nat → Nat → PV) (x1 : Int) : Nat → Nat → PV := catf 15 (catf 14 (e7 x0 x1) (rowOf 1 [.val (.int .u8 (IntKind.u8.wrap (shrI .u64 x1 8)))])) (rowOf 1 [.val (.int .u8 (IntKind.u8.wrap (shrI .u64 x1 0)))])
def e9 (x0 : Int) (x1 : Int) (x2 : Int) (x3 : Int) (x4 : Int) (x5 : Int) (x6 : Int) : Nat → Nat → PV := catf 8 (e4 x0 x1 x2 x3 x4 x5) (rowOf 1 [.val (.int .u8 (IntKind.u8.wrap (shrI .u64 x6 56)))])
def e10 (x0 : Int) (x1 : Int) (x2 : Int) (x3 : Int) (x4 : Int) (x5 : Int) (x6 : Int) : Nat → Nat → PV := catf 9 (e9 x0 x1 x2 x3 x4 x5 x6) (rowOf 1 [.val (.int .u8 (IntKind.u8.wrap (shrI .u64 x6 48)))])
def e11 (x0 : Int) (x1 : Int) (x2 : Int) (x3 : Int) (x4 : Int) (x5 : Int) (x6 : Int) : Nat → Nat → PV := catf 10 (e10 x0 x1 x2 x3 x4 x5 x6) (rowOf 1 [.val (.int .u8 (IntKind.u8.wrap (shrI .u64 x6 40)))])
def e12 (x0 : Int) (x1 : Int) (x2 : Int) (x3 : Int) (x4 : Int) (x5 : Int) (x6 : Int) : Nat → Nat → PV := catf 11 (e11 x0 x1 x2 x3 x4 x5 x6) (rowOf 1 [.val (.int .u8 (IntKind.u8.wrap (shrI .u64 x6 32)))])
def e13 (x0 : Int) (x1 : Int) (x2 : Int) (x3 : Int) (x4 : Int) (x5 : Int) (x6 : Int) : Nat → Nat → PV := catf 12 (e12 x0 x1 x2 x3 x4 x5 x6) (rowOf 1 [.val (.int .u8 (IntKind.u8.wrap (shrI .u64 x6 24)))])
def e14 (x0 : Int) (x1 : Int) (x2 : Int) (x3 : Int) (x4 : Int) (x5 : Int) (x6 : Int) : Nat → Nat → PV := catf 13 (e13 x0 x1 x2 x3 x4 x5 x6) (rowOf 1 [.val (.int .u8 (IntKind.u8.wrap (shrI .u64 x6 16)))])
def e15 (x0 : Int) (x1 : Int) (x2 : Int) (x3 : Int) (x4 : Int) (x5 : Int) (x6 : Int) : Nat → Nat → PV := catf 14 (e14 x0 x1 x2 x3 x4 x5 x6) (rowOf 1 [.val (.int .u8 (IntKind.u8.wrap (shrI .u64 x6 8)))])
def e16 (x0 : Int) (x1 : Int) (x2 : Int) (x3 : Int) (x4 : Int) (x5 : Int) (x6 : Int) : Nat → Nat → PV := catf 15 (e15 x0 x1 x2 x3 x4 x5 x6) (rowOf 1 [.val (.int .u8 (IntKind.u8.wrap (shrI .u64 x6 0)))])
def e17 (x0 : Nat → Nat → PV) (x1 : Int) : Nat → Nat → PV := catf 17 (catf 16 (x0) (rowOf 1 [.val (.int .u8 (IntKind.u8.wrap (shrI .u64 x1 24)))])) (rowOf 1 [.val (.int .u8 (IntKind.u8.wrap (shrI .u64 x1 16)))])
def e18 (x0 : Nat → Nat → PV) (x1 : Int) : Nat → Nat → PV := catf 19 (catf 18 (e17 x0 x1) (rowOf 1 [.val (.int .u8 (IntKind.u8.wrap (shrI .u64 x1 8)))])) (rowOf 1 [.val (.int .u8 (IntKind.u8.wrap (shrI .u64 x1 0)))])
def e19 (x0 : Int) (x1 : Int) (x2 : Int) (x3 : Int) (x4 : Int) (x5 : Int) (x6 : Int) (x7 : Int) : Nat → Nat → PV := catf 16 (e16 x0 x1 x2 x3 x4 x5 x6) (rowOf 1 [.val (.int .u8 (IntKind.u8.wrap (shrI .u64 (IntKind.u64.wrap x7) 24)))])
def e20 (x0 : Int) (x1 : Int) (x2 : Int) (x3 : Int) (x4 : Int) (x5 : Int) (x6 : Int) (x7 : Int) : Nat → Nat → PV := catf 17 (e19 x0 x1 x2 x3 x4 x5 x6 x7) (rowOf 1 [.val (.int .u8 (IntKind.u8.wrap (shrI .u64 (IntKind.u64.wrap x7) 16)))])
def e21 (x0 : Int) (x1 : Int) (x2 : Int) (x3 : Int) (x4 : Int) (x5 : Int) (x6 : Int) (x7 : Int) : Nat → Nat → PV := catf 18 (e20 x0 x1 x2 x3 x4 x5 x6 x7) (rowOf 1 [.val (.int .u8 (IntKind.u8.wrap (shrI .u64 (IntKind.u64.wrap x7) 8)))])
def e22 (x0 : Int) (x1 : Int) (x2 : Int) (x3 : Int) (x4 : Int) (x5 : Int) (x6 : Int) (x7 : Int) : Nat → Nat → PV := catf 19 (e21 x0 x1 x2 x3 x4 x5 x6 x7) (rowOf 1 [.val (.int .u8 (IntKind.u8.wrap (shrI .u64 (IntKind.u64.wrap x7) 0)))])
def e23 (x0 : Nat → Nat → PV) (x1 : Int) : Nat → Nat → PV := catf 21 (catf 20 (x0) (rowOf 1 [.val (.int .u8 (IntKind.u8.wrap (shrI .u64 x1 56)))])) (rowOf 1 [.val (.int .u8 (IntKind.u8.wrap (shrI .u64 x1 48)))])
def e24 (x0 : Nat → Nat → PV) (x1 : Int) : Nat → Nat → PV := catf 23 (catf 22 (e23 x0 x1) (rowOf 1 [.val (.int .u8 (IntKind.u8.wrap (shrI .u64 x1 40)))])) (rowOf 1 [.val (.int .u8 (IntKind.u8.wrap (shrI .u64 x1 32)))])
def e25 (x0 : Nat → Nat → PV) (x1 : Int) : Nat → Nat → PV := catf 25 (catf 24 (e24 x0 x1) (rowOf 1 [.val (.int .u8 (IntKind.u8.wrap (shrI .u64 x1 24)))])) (rowOf 1 [.val (.int .u8 (IntKind.u8.wrap (shrI .u64 x1 16)))])
def e26 (x0 : Nat → Nat → PV) (x1 : Int) : Nat → Nat → PV := catf 27 (catf 26 (e25 x0 x1) (rowOf 1 [.val (.int .u8 (IntKind.u8.wrap (shrI .u64 x1 8)))])) (rowOf 1 [.val (.int .u8 (IntKind.u8.wrap (shrI .u64 x1 0)))])
def e27 (x0 : Int) (x1 : Int) (x2 : Int) (x3 : Int) (x4 : Int) (x5 : Int) (x6 : Int) (x7 : Int) (x8 : Int) : Nat → Nat → PV := catf 20 (e22 x0 x1 x2 x3 x4 x5 x6 x7) (rowOf 1 [.val (.int .u8 (IntKind.u8.wrap (shrI .u64 x8 56)))])
def e28 (x0 : Int) (x1 : Int) (x2 : Int) (x3 : Int) (x4 : Int) (x5 : Int) (x6 : Int) (x7 : Int) (x8 : Int) : Nat → Nat → PV := catf 21 (e27 x0 x1 x2 x3 x4 x5 x6 x7 x8) (rowOf 1 [.val (.int .u8 (IntKind.u8.wrap (shrI .u64 x8 48)))])
def e29 (x0 : Int) (x1 : Int) (x2 : Int) (x3 : Int) (x4 : Int) (x5 : Int) (x6 : Int) (x7 : Int) (x8 : Int) : Nat → Nat → PV := catf 22 (e28 x0 x1 x2 x3 x4 x5 x6 x7 x8) (rowOf 1 [.val (.int .u8 (IntKind.u8.wrap (shrI .u64 x8 40)))])
def e30 (x0 : Int) (x1 : Int) (x2 : Int) (x3 : Int) (x4 : Int) (x5 : Int) (x6 : Int) (x7 : Int) (x8 : Int) : Nat → Nat → PV := catf 23 (e29 x0 x1 x2 x3 x4 x5 x6 x7 x8) (rowOf 1 [.val (.int .u8 (IntKind.u8.wrap (shrI .u64 x8 32)))])
def e31 (x0 : Int) (x1 : Int) (x2 : Int) (x3 : Int) (x4 : Int) (x5 : Int) (x6 : Int) (x7 : Int) (x8 : Int) : Nat → Nat → PV := catf 24 (e30 x0 x1 x2 x3 x4 x5 x6 x7 x8) (rowOf 1 [.val (.int .u8 (IntKind.u8.wrap (shrI .u64 x8 24)))])
def e32 (x0 : Int) (x1 : Int) (x2 : Int) (x3 : Int) (x4 : Int) (x5 : Int) (x6 : Int) (x7 : Int) (x8 : Int) : Nat → Nat → PV := catf 25 (e31 x0 x1 x2 x3 x4 x5 x6 x7 x8) (rowOf 1 [.val (.int .u8 (IntKind.u8.wrap (shrI .u64 x8 16)))])
def e33 (x0 : Int) (x1 : Int) (x2 : Int) (x3 : Int) (x4 : Int) (x5 : Int) (x6 : Int) (x7 : Int) (x8 : Int) : Nat → Nat → PV := catf 26 (e32 x0 x1 x2 x3 x4 x5 x6 x7 x8) (rowOf 1 [.val (.int .u8 (IntKind.u8.wrap (shrI .u64 x8 8)))])
def e34 (x0 : Int) (x1 : Int) (x2 : Int) (x3 : Int) (x4 : Int) (x5 : Int) (x6 : Int) (x7 : Int) (x8 : Int) : Nat → Nat → PV := catf 27 (e33 x0 x1 x2 x3 x4 x5 x6 x7 x8) (rowOf 1 [.val (.int .u8 (IntKind.u8.wrap (shrI .u64 x8 0)))])
def e35 (x0 : Nat → Nat → PV) (x1 : Int) : Nat → Nat → PV := catf 29 (catf 28 (x0) (rowOf 1 [.val (.int .u8 (IntKind.u8.wrap (shrI .u64 x1 8)))])) (rowOf 1 [.val (.int .u8 (IntKind.u8.wrap (shrI .u64 x1 0)))])
def e36 (x0 : Int) (x1 : Int) (x2 : Int) (x3 : Int) (x4 : Int) (x5 : Int) (x6 : Int) (x7 : Int) (x8 : Int) (x9 : Int) : Nat → Nat → PV := catf 28 (e34 x0 x1 x2 x3 x4 x5 x6 x7 x8) (rowOf 1 [.val (.int .u8 (IntKind.u8.wrap (shrI .u64 (IntKind.u64.wrap x9) 8)))])
def e37 (x0 : Int) (x1 : Int) (x2 : Int) (x3 : Int) (x4 : Int) (x5 : Int) (x6 : Int) (x7 : Int) (x8 : Int) (x9 : Int) : Nat → Nat → PV := catf 29 (e36 x0 x1 x2 x3 x4 x5 x6 x7 x8 x9) (rowOf 1 [.val (.int .u8 (IntKind.u8.wrap (shrI .u64 (IntKind.u64.wrap x9) 0)))])
def e38 (x0 : Nat → Nat → PV) (x1 : Int) : Nat → Nat → PV := catf 31 (catf 30 (x0) (rowOf 1 [.val (.int .u8 (IntKind.u8.wrap (shrI .u64 x1 8)))])) (rowOf 1 [.val (.int .u8 (IntKind.u8.wrap (shrI .u64 x1 0)))])
def e39 (x0 : Int) (x1 : Int) (x2 : Int) (x3 : Int) (x4 : Int) (x5 : Int) (x6 : Int) (x7 : Int) (x8 : Int) (x9 : Int) (x10 : Int) : Nat → Nat → PV := catf 30 (e37 x0 x1 x2 x3 x4 x5 x6 x7 x8 x9) (rowOf 1 [.val (.int .u8 (IntKind.u8.wrap (shrI .u64 (IntKind.u64.wrap x10) 8)))])
def e40 (x0 : Int) (x1 : Int) (x2 : Int) (x3 : Int) (x4 : Int) (x5 : Int) (x6 : Int) (x7 : Int) (x8 : Int) (x9 : Int) (x10 : Int) : Nat → Nat → PV := catf 31 (e39 x0 x1 x2 x3 x4 x5 x6 x7 x8 x9 x10) (rowOf 1 [.val (.int .u8 (IntKind.u8.wrap (shrI .u64 (IntKind.u64.wrap x10) 0)))])
def e41 (x0 : Int) (x1 : Int) (x2 : Int) (x3 : Int) (x4 : Int) (x5 : Int) (x6 : Int) (x7 : Int) (x8 : Int) (x9 : Int) (x10 : Int) : Nat → Nat → PV := catf 32 (e40 x0 x1 x2 x3 x4 x5 x6 x7 x8 x9 x10) (rowOf 1 [.val (.int .u8 0)])
def e42 (x0 : Int) (x1 : Int) (x2 : Int) (x3 : Int) (x4 : Int) (x5 : Int) (x6 : Int) (x7 : Int) (x8 : Int) (x9 : Int) (x10 : Int) : Nat → Nat → PV := catf 33 (e41 x0 x1 x2 x3 x4 x5 x6 x7 x8 x9 x10) (rowOf 1 [.val (.int .u8 0)])
def e43 (x0 : Int) (x1 : Int) (x2 : Int) (x3 : Int) (x4 : Int) (x5 : Int) (x6 : Int) (x7 : Int) (x8 : Int) (x9 : Int) (x10 : Int) : Nat → Nat → PV := catf 34 (e42 x0 x1 x2 x3 x4 x5 x6 x7 x8 x9 x10) (rowOf 1 [.val (.int .u8 0)])
def e44 (x0 : Int) (x1 : Int) (x2 : Int) (x3 : Int) (x4 : Int) (x5 : Int) (x6 : Int) (x7 : Int) (x8 : Int) (x9 : Int) (x10 : Int) : Nat → Nat → PV := catf 35 (e43 x0 x1 x2 x3 x4 x5 x6 x7 x8 x9 x10) (rowOf 1 [.val (.int .u8 0)])
def e45 (x0 : Int) (x1 : Int) (x2 : Int) (x3 : Int) (x4 : Int) (x5 : Int) (x6 : Int) (x7 : Int) (x8 : Int) (x9 : Int) (x10 : Int) : Nat → Nat → PV := catf 36 (e44 x0 x1 x2 x3 x4 x5 x6 x7 x8 x9 x10) (rowOf 1 [.val (.int .u8 0)])
def e46 (x0 : Int) (x1 : Int) (x2 : Int) (x3 : Int) (x4 : Int) (x5 : Int) (x6 : Int) (x7 : Int) (x8 : Int) (x9 : Int) (x10 : Int) : Nat → Nat → PV := catf 37 (e45 x0 x1 x2 x3 x4 x5 x6 x7 x8 x9 x10) (rowOf 1 [.val (.int .u8 0)])
def e47 (x0 : Int) (x1 : Int) (x2 : Int) (x3 : Int) (x4 : Int) (x5 : Int) (x6 : Int) (x7 : Int) (x8 : Int) (x9 : Int) (x10 : Int) : Nat → Nat → PV := catf 38 (e46 x0 x1 x2 x3 x4 x5 x6 x7 x8 x9 x10) (rowOf 1 [.val (.int .u8 0)])
/- weirgate/bpdu.Frame -/
def bpdu_Frame_T {α : Type} (Gbpdu_Good : Int → Int → Int → Int → Int → Int → Bool → Bool → Bool → Bool → Bool → (Bool → Option α) → Option α) (Gmac_Group : Int → (Bool → Option α) → Option α) (Gbpdu_flag : Bool → (Int → Option α) → Option α) (Gbpdu_flag_v1 : Bool → (Int → Option α) → Option α) (Gbpdu_flag_v2 : Bool → (Int → Option α) → Option α) (Gbpdu_flag_v3 : Bool → (Int → Option α) → Option α) (Gbpdu_flag_v4 : Bool → (Int → Option α) → Option α) (a_1 : Int) (a_2 : Int) (a_3 : Int) (a_4 : Int) (a_5 : Int) (a_6 : Int) (a_7 : Int) (a_8 : Bool) (a_9 : Bool) (a_10 : Bool) (a_11 : Bool) (a_12 : Bool) (k0 : Option α) (k1 : Int → (Nat → Nat → PV) → Option α) : Option α := Gbpdu_Good a_2 a_3 a_4 a_5 a_6 a_7 a_8 a_9 a_10 a_11 a_12
  (fun r_13 => bif !r_13 then
   k0
  else bif !((shrI .u64 a_1 48) == 0) then
   k0
  else Gmac_Group a_1
   (fun r_14 => bif r_14 then
    k0
   else Gbpdu_flag a_12
    (fun r_15 => Gbpdu_flag_v1 a_8
     (fun r_16 => Gbpdu_flag_v2 a_10
      (fun r_17 => Gbpdu_flag_v3 a_11
       (fun r_18 => Gbpdu_flag_v4 a_9
        (fun r_19 => k1 a_1 (e47 r_15 r_16 a_7 r_17 r_18 r_19 a_2 a_3 a_4 a_5 a_6))))))))
def bpdu_Frame {α : Type} (a_1 : Int) (a_2 : Int) (a_3 : Int) (a_4 : Int) (a_5 : Int) (a_6 : Int) (a_7 : Int) (a_8 : Bool) (a_9 : Bool) (a_10 : Bool) (a_11 : Bool) (a_12 : Bool) (k0 : Option α) (k1 : Int → (Nat → Nat → PV) → Option α) : Option α := bpdu_Frame_T bpdu_Good mac_Group bpdu_flag bpdu_flag_v1 bpdu_flag_v2 bpdu_flag_v3 bpdu_flag_v4 a_1 a_2 a_3 a_4 a_5 a_6 a_7 a_8 a_9 a_10 a_11 a_12 k0 k1
def bpdu_Frame_S (Gbpdu_Good : Int → Int → Int → Int → Int → Int → Bool → Bool → Bool → Bool → Bool → (Bool → Option Out) → Option Out) (Gmac_Group : Int → (Bool → Option Out) → Option Out) (Gbpdu_flag : Bool → (Int → Option Out) → Option Out) (Gbpdu_flag_v1 : Bool → (Int → Option Out) → Option Out) (Gbpdu_flag_v2 : Bool → (Int → Option Out) → Option Out) (Gbpdu_flag_v3 : Bool → (Int → Option Out) → Option Out) (Gbpdu_flag_v4 : Bool → (Int → Option Out) → Option Out) : List (Nat × Sm) := [(16, yes), (21, smOf [(bpdu_Good_p, fun h k => Gbpdu_Good (gI h 0) (gI h 1) (gI h 2) (gI h 3) (gI h 4) (gI h 5) (gB h 6) (gB h 7) (gB h 8) (gB h 9) (gB h 10) (fun r0 => k (.v (.c (.pv (.val (.bool r0))))) []))]), (56, smOf [(mac_Group_p, fun h k => Gmac_Group (gI h 0) (fun r0 => k (.v (.c (.pv (.val (.bool r0))))) []))]), (96, smOf [(bpdu_flag_p, fun h k => Gbpdu_flag (gB h 0) (fun r0 => k (.v (.c (.pv (.val (.int .u8 r0))))) [])), (bpdu_flag_v1_p, fun h k => Gbpdu_flag_v1 (gB h 0) (fun r0 => k (.v (.c (.pv (.val (.int .u8 r0))))) [])), (bpdu_flag_v2_p, fun h k => Gbpdu_flag_v2 (gB h 0) (fun r0 => k (.v (.c (.pv (.val (.int .u8 r0))))) [])), (bpdu_flag_v3_p, fun h k => Gbpdu_flag_v3 (gB h 0) (fun r0 => k (.v (.c (.pv (.val (.int .u8 r0))))) [])), (bpdu_flag_v4_p, fun h k => Gbpdu_flag_v4 (gB h 0) (fun r0 => k (.v (.c (.pv (.val (.int .u8 r0))))) []))])]
def bpdu_Frame_B (Gbpdu_Good : Int → Int → Int → Int → Int → Int → Bool → Bool → Bool → Bool → Bool → (Bool → Option Out) → Option Out) (Gmac_Group : Int → (Bool → Option Out) → Option Out) (Gbpdu_flag : Bool → (Int → Option Out) → Option Out) (Gbpdu_flag_v1 : Bool → (Int → Option Out) → Option Out) (Gbpdu_flag_v2 : Bool → (Int → Option Out) → Option Out) (Gbpdu_flag_v3 : Bool → (Int → Option Out) → Option Out) (Gbpdu_flag_v4 : Bool → (Int → Option Out) → Option Out) : Hooks := []
theorem bpdu_Frame_eq (Gbpdu_Good : Int → Int → Int → Int → Int → Int → Bool → Bool → Bool → Bool → Bool → (Bool → Option Out) → Option Out) (Gmac_Group : Int → (Bool → Option Out) → Option Out) (Gbpdu_flag : Bool → (Int → Option Out) → Option Out) (Gbpdu_flag_v1 : Bool → (Int → Option Out) → Option Out) (Gbpdu_flag_v2 : Bool → (Int → Option Out) → Option Out) (Gbpdu_flag_v3 : Bool → (Int → Option Out) → Option Out) (Gbpdu_flag_v4 : Bool → (Int → Option Out) → Option Out) (a_1 : Int) (a_2 : Int) (a_3 : Int) (a_4 : Int) (a_5 : Int) (a_6 : Int) (a_7 : Int) (a_8 : Bool) (a_9 : Bool) (a_10 : Bool) (a_11 : Bool) (a_12 : Bool) (k : FK) : runS tt (has eql) Try.prog.funcs 1152921504606846976 (bpdu_Frame_S Gbpdu_Good Gmac_Group Gbpdu_flag Gbpdu_flag_v1 Gbpdu_flag_v2 Gbpdu_flag_v3 Gbpdu_flag_v4) (bpdu_Frame_B Gbpdu_Good Gmac_Group Gbpdu_flag Gbpdu_flag_v1 Gbpdu_flag_v2 Gbpdu_flag_v3 Gbpdu_flag_v4) (has bor) 40 17 [.v (.c (.pv (.val (.int .u64 a_1)))), .v (.agg [.pv (.val (.int .u64 a_2)), .pv (.val (.int .u32 a_3)), .pv (.val (.int .u64 a_4)), .pv (.val (.int .i64 a_5)), .pv (.val (.int .i64 a_6)), .pv (.val (.int .i64 a_7)), .pv (.val (.bool a_8)), .pv (.val (.bool a_9)), .pv (.val (.bool a_10)), .pv (.val (.bool a_11)), .pv (.val (.bool a_12))])] [] k = bpdu_Frame_T Gbpdu_Good Gmac_Group Gbpdu_flag Gbpdu_flag_v1 Gbpdu_flag_v2 Gbpdu_flag_v3 Gbpdu_flag_v4 a_1 a_2 a_3 a_4 a_5 a_6 a_7 a_8 a_9 a_10 a_11 a_12 (k (.tup [.agg [.pv (.val (.int .u64 0)), .pv (.val (.int .u64 0)), .pv (.val (.bool false)), .pv (.val (.int .i64 0)), .pv (.val (.int .i64 0)), .pv (.val (.int .i64 0)), .pv (.val (.slice none 0 0))], .c (.pv (.val (.int .i64 11)))]) []) (fun r0 r1 => k (.tup [.agg [.pv (.val (.int .u64 1652522221568)), .pv (.val (.int .u64 r0)), .pv (.val (.bool false)), .pv (.val (.int .i64 0)), .pv (.val (.int .i64 0)), .pv (.val (.int .i64 39)), .own 0], .c (.pv (.val (.int .i64 0)))]) [.parr false (.int .u8 .nil) 1 39 (r1)]) := by kernel_rfl
def bpdu_Frame_p : PAr := ⟨[.v (.c (.pv (.int .u64 .h))), .v (.agg [.pv (.int .u64 .h), .pv (.int .u32 .h), .pv (.int .u64 .h), .pv (.int .i64 .h), .pv (.int .i64 .h), .pv (.int .i64 .h), .pv (.bool .h), .pv (.bool .h), .pv (.bool .h), .pv (.bool .h), .pv (.bool .h)])], []⟩
def bpdu_Frame_F (h : List Hole) (k : FK) : Option Out := bpdu_Frame (gI h 0) (gI h 1) (gI h 2) (gI h 3) (gI h 4) (gI h 5) (gI h 6) (gB h 7) (gB h 8) (gB h 9) (gB h 10) (gB h 11) (k (.tup [.agg [.pv (.val (.int .u64 0)), .pv (.val (.int .u64 0)), .pv (.val (.bool false)), .pv (.val (.int .i64 0)), .pv (.val (.int .i64 0)), .pv (.val (.int .i64 0)), .pv (.val (.slice none 0 0))], .c (.pv (.val (.int .i64 11)))]) []) (fun r0 r1 => k (.tup [.agg [.pv (.val (.int .u64 1652522221568)), .pv (.val (.int .u64 r0)), .pv (.val (.bool false)), .pv (.val (.int .i64 0)), .pv (.val (.int .i64 0)), .pv (.val (.int .i64 39)), .own 0], .c (.pv (.val (.int .i64 0)))]) [.parr false (.int .u8 .nil) 1 39 (r1)])
theorem bpdu_Frame_at (h : List Hole) : CallAt Try.prog 17 (arFill bpdu_Frame_p h).1 (arFill bpdu_Frame_p h).2 (bpdu_Frame_F h) := by
  have e : arFill bpdu_Frame_p h = ([.v (.c (.pv (.val (.int .u64 (gI h 0))))), .v (.agg [.pv (.val (.int .u64 (gI h 1))), .pv (.val (.int .u32 (gI h 2))), .pv (.val (.int .u64 (gI h 3))), .pv (.val (.int .i64 (gI h 4))), .pv (.val (.int .i64 (gI h 5))), .pv (.val (.int .i64 (gI h 6))), .pv (.val (.bool (gB h 7))), .pv (.val (.bool (gB h 8))), .pv (.val (.bool (gB h 9))), .pv (.val (.bool (gB h 10))), .pv (.val (.bool (gB h 11)))])], []) := by kernel_rfl
  rw [e]; exact callAt_of (runS_ok ttOk eqOk mixed (names_ok namesOk) (S := bpdu_Frame_S bpdu_Good mac_Group bpdu_flag bpdu_flag_v1 bpdu_flag_v2 bpdu_flag_v3 bpdu_flag_v4) (sums_cons yes16_ok (sums_cons (smOf_ok (alts_cons bpdu_Good_at alts_nil)) (sums_cons (smOf_ok (alts_cons mac_Group_at alts_nil)) (sums_cons (smOf_ok (alts_cons bpdu_flag_at (alts_cons bpdu_flag_v1_at (alts_cons bpdu_flag_v2_at (alts_cons bpdu_flag_v3_at (alts_cons bpdu_flag_v4_at alts_nil)))))) (sums_nil))))) (B := bpdu_Frame_B bpdu_Good mac_Group bpdu_flag bpdu_flag_v1 bpdu_flag_v2 bpdu_flag_v3 bpdu_flag_v4) (hooks_nil) (has bor) 40) fun k => bpdu_Frame_eq bpdu_Good mac_Group bpdu_flag bpdu_flag_v1 bpdu_flag_v2 bpdu_flag_v3 bpdu_flag_v4 _ _ _ _ _ _ _ _ _ _ _ _ k
/- weirgate/weirgateref11.Good -/
def ref11_Good_T {α : Type}  (a_1 : Int) (a_2 : Int) (a_3 : Int) (a_4 : Int) (a_5 : Int) (a_6 : Int) (a_7 : Bool) (a_8 : Bool) (a_9 : Bool) (a_10 : Bool) (a_11 : Bool) (k0 : Bool → Option α) : Option α := bif decide (a_5 ≥ 0) then
  bif decide (a_5 ≤ 65535) then
   bif decide (a_4 ≥ 0) then
    bif decide (a_4 ≤ 65535) then
     bif decide (a_6 ≥ 1) then
      k0 (decide (a_6 ≤ 3))
     else k0 false
    else k0 false
   else k0 false
  else k0 false
 else k0 false
def ref11_Good {α : Type} (a_1 : Int) (a_2 : Int) (a_3 : Int) (a_4 : Int) (a_5 : Int) (a_6 : Int) (a_7 : Bool) (a_8 : Bool) (a_9 : Bool) (a_10 : Bool) (a_11 : Bool) (k0 : Bool → Option α) : Option α := ref11_Good_T  a_1 a_2 a_3 a_4 a_5 a_6 a_7 a_8 a_9 a_10 a_11 k0
def ref11_Good_S  : List (Nat × Sm) := [(16, yes)]
def ref11_Good_B  : Hooks := []
theorem ref11_Good_eq  (a_1 : Int) (a_2 : Int) (a_3 : Int) (a_4 : Int) (a_5 : Int) (a_6 : Int) (a_7 : Bool) (a_8 : Bool) (a_9 : Bool) (a_10 : Bool) (a_11 : Bool) (k : FK) : runS tt (has eql) Try.prog.funcs 1152921504606846976 (ref11_Good_S ) (ref11_Good_B ) (has bor) 40 22 [.v (.agg [.pv (.val (.int .u64 a_1)), .pv (.val (.int .u32 a_2)), .pv (.val (.int .u64 a_3)), .pv (.val (.int .i64 a_4)), .pv (.val (.int .i64 a_5)), .pv (.val (.int .i64 a_6)), .pv (.val (.bool a_7)), .pv (.val (.bool a_8)), .pv (.val (.bool a_9)), .pv (.val (.bool a_10)), .pv (.val (.bool a_11))])] [] k = ref11_Good_T  a_1 a_2 a_3 a_4 a_5 a_6 a_7 a_8 a_9 a_10 a_11 (fun r0 => k (.v (.c (.pv (.val (.bool r0))))) []) := by kernel_rfl
def ref11_Good_p : PAr := ⟨[.v (.agg [.pv (.int .u64 .h), .pv (.int .u32 .h), .pv (.int .u64 .h), .pv (.int .i64 .h), .pv (.int .i64 .h), .pv (.int .i64 .h), .pv (.bool .h), .pv (.bool .h), .pv (.bool .h), .pv (.bool .h), .pv (.bool .h)])], []⟩
def ref11_Good_F (h : List Hole) (k : FK) : Option Out := ref11_Good (gI h 0) (gI h 1) (gI h 2) (gI h 3) (gI h 4) (gI h 5) (gB h 6) (gB h 7) (gB h 8) (gB h 9) (gB h 10) (fun r0 => k (.v (.c (.pv (.val (.bool r0))))) [])
theorem ref11_Good_at (h : List Hole) : CallAt Try.prog 22 (arFill ref11_Good_p h).1 (arFill ref11_Good_p h).2 (ref11_Good_F h) := by
  have e : arFill ref11_Good_p h = ([.v (.agg [.pv (.val (.int .u64 (gI h 0))), .pv (.val (.int .u32 (gI h 1))), .pv (.val (.int .u64 (gI h 2))), .pv (.val (.int .i64 (gI h 3))), .pv (.val (.int .i64 (gI h 4))), .pv (.val (.int .i64 (gI h 5))), .pv (.val (.bool (gB h 6))), .pv (.val (.bool (gB h 7))), .pv (.val (.bool (gB h 8))), .pv (.val (.bool (gB h 9))), .pv (.val (.bool (gB h 10)))])], []) := by kernel_rfl
  rw [e]; exact callAt_of (runS_ok ttOk eqOk mixed (names_ok namesOk) (S := ref11_Good_S ) (sums_cons yes16_ok (sums_nil)) (B := ref11_Good_B ) (hooks_nil) (has bor) 40) fun k => ref11_Good_eq  _ _ _ _ _ _ _ _ _ _ _ k
/- weirgate/weirgateref09.Group -/
def ref09_Group_T {α : Type}  (a_1 : Int) (k0 : Bool → Option α) : Option α := bif decide (a_1 < 281474976710656) then
  k0 ((bits .and .u64 (shrI .u64 a_1 40) 1) == 1)
 else k0 false
def ref09_Group {α : Type} (a_1 : Int) (k0 : Bool → Option α) : Option α := ref09_Group_T  a_1 k0
def ref09_Group_S  : List (Nat × Sm) := [(16, yes)]
def ref09_Group_B  : Hooks := []
theorem ref09_Group_eq  (a_1 : Int) (k : FK) : runS tt (has eql) Try.prog.funcs 1152921504606846976 (ref09_Group_S ) (ref09_Group_B ) (has bor) 40 61 [.v (.c (.pv (.val (.int .u64 a_1))))] [] k = ref09_Group_T  a_1 (fun r0 => k (.v (.c (.pv (.val (.bool r0))))) []) := by kernel_rfl
def ref09_Group_p : PAr := ⟨[.v (.c (.pv (.int .u64 .h)))], []⟩
def ref09_Group_F (h : List Hole) (k : FK) : Option Out := ref09_Group (gI h 0) (fun r0 => k (.v (.c (.pv (.val (.bool r0))))) [])
theorem ref09_Group_at (h : List Hole) : CallAt Try.prog 61 (arFill ref09_Group_p h).1 (arFill ref09_Group_p h).2 (ref09_Group_F h) := by
  have e : arFill ref09_Group_p h = ([.v (.c (.pv (.val (.int .u64 (gI h 0)))))], []) := by kernel_rfl
  rw [e]; exact callAt_of (runS_ok ttOk eqOk mixed (names_ok namesOk) (S := ref09_Group_S ) (sums_cons yes16_ok (sums_nil)) (B := ref09_Group_B ) (hooks_nil) (has bor) 40) fun k => ref09_Group_eq  _ k
/- weirgate/weirgateref11.bit -/
def ref11_bit_T {α : Type}  (a_1 : Bool) (k0 : Int → Option α) : Option α := bif a_1 then
  k0 1
 else k0 0
def ref11_bit {α : Type} (a_1 : Bool) (k0 : Int → Option α) : Option α := ref11_bit_T  a_1 k0
def ref11_bit_S  : List (Nat × Sm) := [(16, yes)]
def ref11_bit_B  : Hooks := []
theorem ref11_bit_eq  (a_1 : Bool) (k : FK) : runS tt (has eql) Try.prog.funcs 1152921504606846976 (ref11_bit_S ) (ref11_bit_B ) (has bor) 40 62 [.v (.c (.pv (.val (.bool a_1)))), .v (.c (.pv (.val (.int .u8 1))))] [] k = ref11_bit_T  a_1 (fun r0 => k (.v (.c (.pv (.val (.int .u8 r0))))) []) := by kernel_rfl
def ref11_bit_p : PAr := ⟨[.v (.c (.pv (.bool .h))), .v (.c (.pv (.int .u8 (.l 1))))], []⟩
def ref11_bit_F (h : List Hole) (k : FK) : Option Out := ref11_bit (gB h 0) (fun r0 => k (.v (.c (.pv (.val (.int .u8 r0))))) [])
theorem ref11_bit_at (h : List Hole) : CallAt Try.prog 62 (arFill ref11_bit_p h).1 (arFill ref11_bit_p h).2 (ref11_bit_F h) := by
  have e : arFill ref11_bit_p h = ([.v (.c (.pv (.val (.bool (gB h 0))))), .v (.c (.pv (.val (.int .u8 1))))], []) := by kernel_rfl
  rw [e]; exact callAt_of (runS_ok ttOk eqOk mixed (names_ok namesOk) (S := ref11_bit_S ) (sums_cons yes16_ok (sums_nil)) (B := ref11_bit_B ) (hooks_nil) (has bor) 40) fun k => ref11_bit_eq  _ k
/- weirgate/weirgateref11.bit -/
def ref11_bit_v1_T {α : Type}  (a_1 : Bool) (k0 : Int → Option α) : Option α := bif a_1 then
  k0 2
 else k0 0
def ref11_bit_v1 {α : Type} (a_1 : Bool) (k0 : Int → Option α) : Option α := ref11_bit_v1_T  a_1 k0
def ref11_bit_v1_S  : List (Nat × Sm) := [(16, yes)]
def ref11_bit_v1_B  : Hooks := []
theorem ref11_bit_v1_eq  (a_1 : Bool) (k : FK) : runS tt (has eql) Try.prog.funcs 1152921504606846976 (ref11_bit_v1_S ) (ref11_bit_v1_B ) (has bor) 40 62 [.v (.c (.pv (.val (.bool a_1)))), .v (.c (.pv (.val (.int .u8 2))))] [] k = ref11_bit_v1_T  a_1 (fun r0 => k (.v (.c (.pv (.val (.int .u8 r0))))) []) := by kernel_rfl
def ref11_bit_v1_p : PAr := ⟨[.v (.c (.pv (.bool .h))), .v (.c (.pv (.int .u8 (.l 2))))], []⟩
def ref11_bit_v1_F (h : List Hole) (k : FK) : Option Out := ref11_bit_v1 (gB h 0) (fun r0 => k (.v (.c (.pv (.val (.int .u8 r0))))) [])
theorem ref11_bit_v1_at (h : List Hole) : CallAt Try.prog 62 (arFill ref11_bit_v1_p h).1 (arFill ref11_bit_v1_p h).2 (ref11_bit_v1_F h) := by
  have e : arFill ref11_bit_v1_p h = ([.v (.c (.pv (.val (.bool (gB h 0))))), .v (.c (.pv (.val (.int .u8 2))))], []) := by kernel_rfl
  rw [e]; exact callAt_of (runS_ok ttOk eqOk mixed (names_ok namesOk) (S := ref11_bit_v1_S ) (sums_cons yes16_ok (sums_nil)) (B := ref11_bit_v1_B ) (hooks_nil) (has bor) 40) fun k => ref11_bit_v1_eq  _ k
/- weirgate/weirgateref11.bit -/
def ref11_bit_v2_T {α : Type}  (a_1 : Bool) (k0 : Int → Option α) : Option α := bif a_1 then
  k0 16
 else k0 0
def ref11_bit_v2 {α : Type} (a_1 : Bool) (k0 : Int → Option α) : Option α := ref11_bit_v2_T  a_1 k0
def ref11_bit_v2_S  : List (Nat × Sm) := [(16, yes)]
def ref11_bit_v2_B  : Hooks := []
theorem ref11_bit_v2_eq  (a_1 : Bool) (k : FK) : runS tt (has eql) Try.prog.funcs 1152921504606846976 (ref11_bit_v2_S ) (ref11_bit_v2_B ) (has bor) 40 62 [.v (.c (.pv (.val (.bool a_1)))), .v (.c (.pv (.val (.int .u8 16))))] [] k = ref11_bit_v2_T  a_1 (fun r0 => k (.v (.c (.pv (.val (.int .u8 r0))))) []) := by kernel_rfl
def ref11_bit_v2_p : PAr := ⟨[.v (.c (.pv (.bool .h))), .v (.c (.pv (.int .u8 (.l 16))))], []⟩
def ref11_bit_v2_F (h : List Hole) (k : FK) : Option Out := ref11_bit_v2 (gB h 0) (fun r0 => k (.v (.c (.pv (.val (.int .u8 r0))))) [])
theorem ref11_bit_v2_at (h : List Hole) : CallAt Try.prog 62 (arFill ref11_bit_v2_p h).1 (arFill ref11_bit_v2_p h).2 (ref11_bit_v2_F h) := by
  have e : arFill ref11_bit_v2_p h = ([.v (.c (.pv (.val (.bool (gB h 0))))), .v (.c (.pv (.val (.int .u8 16))))], []) := by kernel_rfl
  rw [e]; exact callAt_of (runS_ok ttOk eqOk mixed (names_ok namesOk) (S := ref11_bit_v2_S ) (sums_cons yes16_ok (sums_nil)) (B := ref11_bit_v2_B ) (hooks_nil) (has bor) 40) fun k => ref11_bit_v2_eq  _ k
/- weirgate/weirgateref11.bit -/
def ref11_bit_v3_T {α : Type}  (a_1 : Bool) (k0 : Int → Option α) : Option α := bif a_1 then
  k0 32
 else k0 0
def ref11_bit_v3 {α : Type} (a_1 : Bool) (k0 : Int → Option α) : Option α := ref11_bit_v3_T  a_1 k0
def ref11_bit_v3_S  : List (Nat × Sm) := [(16, yes)]
def ref11_bit_v3_B  : Hooks := []
theorem ref11_bit_v3_eq  (a_1 : Bool) (k : FK) : runS tt (has eql) Try.prog.funcs 1152921504606846976 (ref11_bit_v3_S ) (ref11_bit_v3_B ) (has bor) 40 62 [.v (.c (.pv (.val (.bool a_1)))), .v (.c (.pv (.val (.int .u8 32))))] [] k = ref11_bit_v3_T  a_1 (fun r0 => k (.v (.c (.pv (.val (.int .u8 r0))))) []) := by kernel_rfl
def ref11_bit_v3_p : PAr := ⟨[.v (.c (.pv (.bool .h))), .v (.c (.pv (.int .u8 (.l 32))))], []⟩
def ref11_bit_v3_F (h : List Hole) (k : FK) : Option Out := ref11_bit_v3 (gB h 0) (fun r0 => k (.v (.c (.pv (.val (.int .u8 r0))))) [])
theorem ref11_bit_v3_at (h : List Hole) : CallAt Try.prog 62 (arFill ref11_bit_v3_p h).1 (arFill ref11_bit_v3_p h).2 (ref11_bit_v3_F h) := by
  have e : arFill ref11_bit_v3_p h = ([.v (.c (.pv (.val (.bool (gB h 0))))), .v (.c (.pv (.val (.int .u8 32))))], []) := by kernel_rfl
  rw [e]; exact callAt_of (runS_ok ttOk eqOk mixed (names_ok namesOk) (S := ref11_bit_v3_S ) (sums_cons yes16_ok (sums_nil)) (B := ref11_bit_v3_B ) (hooks_nil) (has bor) 40) fun k => ref11_bit_v3_eq  _ k
/- weirgate/weirgateref11.bit -/
def ref11_bit_v4_T {α : Type}  (a_1 : Bool) (k0 : Int → Option α) : Option α := bif a_1 then
  k0 64
 else k0 0
def ref11_bit_v4 {α : Type} (a_1 : Bool) (k0 : Int → Option α) : Option α := ref11_bit_v4_T  a_1 k0
def ref11_bit_v4_S  : List (Nat × Sm) := [(16, yes)]
def ref11_bit_v4_B  : Hooks := []
theorem ref11_bit_v4_eq  (a_1 : Bool) (k : FK) : runS tt (has eql) Try.prog.funcs 1152921504606846976 (ref11_bit_v4_S ) (ref11_bit_v4_B ) (has bor) 40 62 [.v (.c (.pv (.val (.bool a_1)))), .v (.c (.pv (.val (.int .u8 64))))] [] k = ref11_bit_v4_T  a_1 (fun r0 => k (.v (.c (.pv (.val (.int .u8 r0))))) []) := by kernel_rfl
def ref11_bit_v4_p : PAr := ⟨[.v (.c (.pv (.bool .h))), .v (.c (.pv (.int .u8 (.l 64))))], []⟩
def ref11_bit_v4_F (h : List Hole) (k : FK) : Option Out := ref11_bit_v4 (gB h 0) (fun r0 => k (.v (.c (.pv (.val (.int .u8 r0))))) [])
theorem ref11_bit_v4_at (h : List Hole) : CallAt Try.prog 62 (arFill ref11_bit_v4_p h).1 (arFill ref11_bit_v4_p h).2 (ref11_bit_v4_F h) := by
  have e : arFill ref11_bit_v4_p h = ([.v (.c (.pv (.val (.bool (gB h 0))))), .v (.c (.pv (.val (.int .u8 64))))], []) := by kernel_rfl
  rw [e]; exact callAt_of (runS_ok ttOk eqOk mixed (names_ok namesOk) (S := ref11_bit_v4_S ) (sums_cons yes16_ok (sums_nil)) (B := ref11_bit_v4_B ) (hooks_nil) (has bor) 40) fun k => ref11_bit_v4_eq  _ k
def e48 (x0 : Int) (x1 : Int) (x2 : Int) (x3 : Int) (x4 : Int) (x5 : Int) : Nat → Nat → PV := rowOf 1 [.val (.int .u8 66), .val (.int .u8 66), .val (.int .u8 3), .val (.int .u8 0), .val (.int .u8 0), .val (.int .u8 2), .val (.int .u8 2), .val (.int .u8 (bits .or .u8 (bits .or .u8 (e2 x0 x1 x2 x3) x4) x5))]
def e49 (x0 : Int) : Nat → Nat → PV := catf 1 (rowOf 1 [.val (.int .u8 (IntKind.u8.wrap (shrI .u64 x0 56)))]) (rowOf 1 [.val (.int .u8 (IntKind.u8.wrap (shrI .u64 x0 48)))])
def e50 (x0 : Int) : Nat → Nat → PV := catf 3 (catf 2 (e49 x0) (rowOf 1 [.val (.int .u8 (IntKind.u8.wrap (shrI .u64 x0 40)))])) (rowOf 1 [.val (.int .u8 (IntKind.u8.wrap (shrI .u64 x0 32)))])
def e51 (x0 : Int) : Nat → Nat → PV := catf 5 (catf 4 (e50 x0) (rowOf 1 [.val (.int .u8 (IntKind.u8.wrap (shrI .u64 x0 24)))])) (rowOf 1 [.val (.int .u8 (IntKind.u8.wrap (shrI .u64 x0 16)))])
def e52 (x0 : Int) : Nat → Nat → PV := catf 7 (catf 6 (e51 x0) (rowOf 1 [.val (.int .u8 (IntKind.u8.wrap (shrI .u64 x0 8)))])) (rowOf 1 [.val (.int .u8 (IntKind.u8.wrap (shrI .u64 x0 0)))])
def e53 (x0 : Int) : Nat → Nat → PV := catf 1 (rowOf 1 [.val (.int .u8 (IntKind.u8.wrap (shrI .u64 x0 24)))]) (rowOf 1 [.val (.int .u8 (IntKind.u8.wrap (shrI .u64 x0 16)))])
def e54 (x0 : Int) : Nat → Nat → PV := catf 3 (catf 2 (e53 x0) (rowOf 1 [.val (.int .u8 (IntKind.u8.wrap (shrI .u64 x0 8)))])) (rowOf 1 [.val (.int .u8 (IntKind.u8.wrap (shrI .u64 x0 0)))])
def e55 (x0 : Int) : Nat → Nat → PV := catf 1 (rowOf 1 [.val (.int .u8 (IntKind.u8.wrap (shrI .u64 (IntKind.u64.wrap x0) 24)))]) (rowOf 1 [.val (.int .u8 (IntKind.u8.wrap (shrI .u64 (IntKind.u64.wrap x0) 16)))])
def e56 (x0 : Int) : Nat → Nat → PV := catf 2 (e55 x0) (rowOf 1 [.val (.int .u8 (IntKind.u8.wrap (shrI .u64 (IntKind.u64.wrap x0) 8)))])
def e57 (x0 : Int) : Nat → Nat → PV := catf 3 (e56 x0) (rowOf 1 [.val (.int .u8 (IntKind.u8.wrap (shrI .u64 (IntKind.u64.wrap x0) 0)))])
def e58 (x0 : Int) (x1 : Int) (x2 : Int) (x3 : Int) (x4 : Int) (x5 : Int) (x6 : Int) (x7 : Int) (x8 : Int) : Nat → Nat → PV := catf 20 (catf 16 (catf 8 (e48 x0 x1 x2 x3 x4 x5) (e52 x6)) (e57 x7)) (e52 x8)
def e59 (x0 : Int) : Nat → Nat → PV := catf 1 (rowOf 1 [.val (.int .u8 (IntKind.u8.wrap (shrI .u64 x0 8)))]) (rowOf 1 [.val (.int .u8 (IntKind.u8.wrap (shrI .u64 x0 0)))])
def e60 (x0 : Int) : Nat → Nat → PV := catf 1 (rowOf 1 [.val (.int .u8 (IntKind.u8.wrap (shrI .u64 (IntKind.u64.wrap x0) 8)))]) (rowOf 1 [.val (.int .u8 (IntKind.u8.wrap (shrI .u64 (IntKind.u64.wrap x0) 0)))])
def e61 (x0 : Int) (x1 : Int) (x2 : Int) (x3 : Int) (x4 : Int) (x5 : Int) (x6 : Int) (x7 : Int) (x8 : Int) (x9 : Int) (x10 : Int) : Nat → Nat → PV := catf 32 (catf 30 (catf 28 (e58 x0 x1 x2 x3 x4 x5 x6 x7 x8) (e60 x9)) (e60 x10)) (fun _ j => .val (([.int .u8 0] : List Value).getD j undef))
/- weirgate/weirgateref11.Frame -/
def ref11_Frame_T {α : Type} (Gref11_Good : Int → Int → Int → Int → Int → Int → Bool → Bool → Bool → Bool → Bool → (Bool → Option α) → Option α) (Gref09_Group : Int → (Bool → Option α) → Option α) (Gref11_bit : Bool → (Int → Option α) → Option α) (Gref11_bit_v1 : Bool → (Int → Option α) → Option α) (Gref11_bit_v2 : Bool → (Int → Option α) → Option α) (Gref11_bit_v3 : Bool → (Int → Option α) → Option α) (Gref11_bit_v4 : Bool → (Int → Option α) → Option α) (a_1 : Int) (a_2 : Int) (a_3 : Int) (a_4 : Int) (a_5 : Int) (a_6 : Int) (a_7 : Int) (a_8 : Bool) (a_9 : Bool) (a_10 : Bool) (a_11 : Bool) (a_12 : Bool) (k0 : Option α) (k1 : Int → (Nat → Nat → PV) → Option α) : Option α := Gref11_Good a_2 a_3 a_4 a_5 a_6 a_7 a_8 a_9 a_10 a_11 a_12
  (fun r_13 => bif !r_13 then
   k0
  else bif !(decide (a_1 < 281474976710656)) then
   k0
  else Gref09_Group a_1
   (fun r_14 => bif r_14 then
    k0
   else Gref11_bit a_12
    (fun r_15 => Gref11_bit_v1 a_8
     (fun r_16 => Gref11_bit_v2 a_10
      (fun r_17 => Gref11_bit_v3 a_11
       (fun r_18 => Gref11_bit_v4 a_9
        (fun r_19 => k1 a_1 (e61 r_15 r_16 a_7 r_17 r_18 r_19 a_2 a_3 a_4 a_5 a_6))))))))
def ref11_Frame {α : Type} (a_1 : Int) (a_2 : Int) (a_3 : Int) (a_4 : Int) (a_5 : Int) (a_6 : Int) (a_7 : Int) (a_8 : Bool) (a_9 : Bool) (a_10 : Bool) (a_11 : Bool) (a_12 : Bool) (k0 : Option α) (k1 : Int → (Nat → Nat → PV) → Option α) : Option α := ref11_Frame_T ref11_Good ref09_Group ref11_bit ref11_bit_v1 ref11_bit_v2 ref11_bit_v3 ref11_bit_v4 a_1 a_2 a_3 a_4 a_5 a_6 a_7 a_8 a_9 a_10 a_11 a_12 k0 k1
def ref11_Frame_S (Gref11_Good : Int → Int → Int → Int → Int → Int → Bool → Bool → Bool → Bool → Bool → (Bool → Option Out) → Option Out) (Gref09_Group : Int → (Bool → Option Out) → Option Out) (Gref11_bit : Bool → (Int → Option Out) → Option Out) (Gref11_bit_v1 : Bool → (Int → Option Out) → Option Out) (Gref11_bit_v2 : Bool → (Int → Option Out) → Option Out) (Gref11_bit_v3 : Bool → (Int → Option Out) → Option Out) (Gref11_bit_v4 : Bool → (Int → Option Out) → Option Out) : List (Nat × Sm) := [(16, yes), (22, smOf [(ref11_Good_p, fun h k => Gref11_Good (gI h 0) (gI h 1) (gI h 2) (gI h 3) (gI h 4) (gI h 5) (gB h 6) (gB h 7) (gB h 8) (gB h 9) (gB h 10) (fun r0 => k (.v (.c (.pv (.val (.bool r0))))) []))]), (61, smOf [(ref09_Group_p, fun h k => Gref09_Group (gI h 0) (fun r0 => k (.v (.c (.pv (.val (.bool r0))))) []))]), (62, smOf [(ref11_bit_p, fun h k => Gref11_bit (gB h 0) (fun r0 => k (.v (.c (.pv (.val (.int .u8 r0))))) [])), (ref11_bit_v1_p, fun h k => Gref11_bit_v1 (gB h 0) (fun r0 => k (.v (.c (.pv (.val (.int .u8 r0))))) [])), (ref11_bit_v2_p, fun h k => Gref11_bit_v2 (gB h 0) (fun r0 => k (.v (.c (.pv (.val (.int .u8 r0))))) [])), (ref11_bit_v3_p, fun h k => Gref11_bit_v3 (gB h 0) (fun r0 => k (.v (.c (.pv (.val (.int .u8 r0))))) [])), (ref11_bit_v4_p, fun h k => Gref11_bit_v4 (gB h 0) (fun r0 => k (.v (.c (.pv (.val (.int .u8 r0))))) []))])]
def ref11_Frame_B (Gref11_Good : Int → Int → Int → Int → Int → Int → Bool → Bool → Bool → Bool → Bool → (Bool → Option Out) → Option Out) (Gref09_Group : Int → (Bool → Option Out) → Option Out) (Gref11_bit : Bool → (Int → Option Out) → Option Out) (Gref11_bit_v1 : Bool → (Int → Option Out) → Option Out) (Gref11_bit_v2 : Bool → (Int → Option Out) → Option Out) (Gref11_bit_v3 : Bool → (Int → Option Out) → Option Out) (Gref11_bit_v4 : Bool → (Int → Option Out) → Option Out) : Hooks := []
theorem ref11_Frame_eq (Gref11_Good : Int → Int → Int → Int → Int → Int → Bool → Bool → Bool → Bool → Bool → (Bool → Option Out) → Option Out) (Gref09_Group : Int → (Bool → Option Out) → Option Out) (Gref11_bit : Bool → (Int → Option Out) → Option Out) (Gref11_bit_v1 : Bool → (Int → Option Out) → Option Out) (Gref11_bit_v2 : Bool → (Int → Option Out) → Option Out) (Gref11_bit_v3 : Bool → (Int → Option Out) → Option Out) (Gref11_bit_v4 : Bool → (Int → Option Out) → Option Out) (a_1 : Int) (a_2 : Int) (a_3 : Int) (a_4 : Int) (a_5 : Int) (a_6 : Int) (a_7 : Int) (a_8 : Bool) (a_9 : Bool) (a_10 : Bool) (a_11 : Bool) (a_12 : Bool) (k : FK) : runS tt (has eql) Try.prog.funcs 1152921504606846976 (ref11_Frame_S Gref11_Good Gref09_Group Gref11_bit Gref11_bit_v1 Gref11_bit_v2 Gref11_bit_v3 Gref11_bit_v4) (ref11_Frame_B Gref11_Good Gref09_Group Gref11_bit Gref11_bit_v1 Gref11_bit_v2 Gref11_bit_v3 Gref11_bit_v4) (has bor) 40 18 [.v (.c (.pv (.val (.int .u64 a_1)))), .v (.agg [.pv (.val (.int .u64 a_2)), .pv (.val (.int .u32 a_3)), .pv (.val (.int .u64 a_4)), .pv (.val (.int .i64 a_5)), .pv (.val (.int .i64 a_6)), .pv (.val (.int .i64 a_7)), .pv (.val (.bool a_8)), .pv (.val (.bool a_9)), .pv (.val (.bool a_10)), .pv (.val (.bool a_11)), .pv (.val (.bool a_12))])] [] k = ref11_Frame_T Gref11_Good Gref09_Group Gref11_bit Gref11_bit_v1 Gref11_bit_v2 Gref11_bit_v3 Gref11_bit_v4 a_1 a_2 a_3 a_4 a_5 a_6 a_7 a_8 a_9 a_10 a_11 a_12 (k (.tup [.agg [.pv (.val (.int .u64 0)), .pv (.val (.int .u64 0)), .pv (.val (.bool false)), .pv (.val (.int .i64 0)), .pv (.val (.int .i64 0)), .pv (.val (.int .i64 0)), .pv (.val (.slice none 0 0))], .c (.pv (.val (.int .i64 11)))]) []) (fun r0 r1 => k (.tup [.agg [.pv (.val (.int .u64 1652522221568)), .pv (.val (.int .u64 r0)), .pv (.val (.bool false)), .pv (.val (.int .i64 0)), .pv (.val (.int .i64 0)), .pv (.val (.int .i64 39)), .own 0], .c (.pv (.val (.int .i64 0)))]) [.parr false (.int .u8 .nil) 1 39 (r1)]) := by kernel_rfl
def ref11_Frame_p : PAr := ⟨[.v (.c (.pv (.int .u64 .h))), .v (.agg [.pv (.int .u64 .h), .pv (.int .u32 .h), .pv (.int .u64 .h), .pv (.int .i64 .h), .pv (.int .i64 .h), .pv (.int .i64 .h), .pv (.bool .h), .pv (.bool .h), .pv (.bool .h), .pv (.bool .h), .pv (.bool .h)])], []⟩
def ref11_Frame_F (h : List Hole) (k : FK) : Option Out := ref11_Frame (gI h 0) (gI h 1) (gI h 2) (gI h 3) (gI h 4) (gI h 5) (gI h 6) (gB h 7) (gB h 8) (gB h 9) (gB h 10) (gB h 11) (k (.tup [.agg [.pv (.val (.int .u64 0)), .pv (.val (.int .u64 0)), .pv (.val (.bool false)), .pv (.val (.int .i64 0)), .pv (.val (.int .i64 0)), .pv (.val (.int .i64 0)), .pv (.val (.slice none 0 0))], .c (.pv (.val (.int .i64 11)))]) []) (fun r0 r1 => k (.tup [.agg [.pv (.val (.int .u64 1652522221568)), .pv (.val (.int .u64 r0)), .pv (.val (.bool false)), .pv (.val (.int .i64 0)), .pv (.val (.int .i64 0)), .pv (.val (.int .i64 39)), .own 0], .c (.pv (.val (.int .i64 0)))]) [.parr false (.int .u8 .nil) 1 39 (r1)])
theorem ref11_Frame_at (h : List Hole) : CallAt Try.prog 18 (arFill ref11_Frame_p h).1 (arFill ref11_Frame_p h).2 (ref11_Frame_F h) := by
  have e : arFill ref11_Frame_p h = ([.v (.c (.pv (.val (.int .u64 (gI h 0))))), .v (.agg [.pv (.val (.int .u64 (gI h 1))), .pv (.val (.int .u32 (gI h 2))), .pv (.val (.int .u64 (gI h 3))), .pv (.val (.int .i64 (gI h 4))), .pv (.val (.int .i64 (gI h 5))), .pv (.val (.int .i64 (gI h 6))), .pv (.val (.bool (gB h 7))), .pv (.val (.bool (gB h 8))), .pv (.val (.bool (gB h 9))), .pv (.val (.bool (gB h 10))), .pv (.val (.bool (gB h 11)))])], []) := by kernel_rfl
  rw [e]; exact callAt_of (runS_ok ttOk eqOk mixed (names_ok namesOk) (S := ref11_Frame_S ref11_Good ref09_Group ref11_bit ref11_bit_v1 ref11_bit_v2 ref11_bit_v3 ref11_bit_v4) (sums_cons yes16_ok (sums_cons (smOf_ok (alts_cons ref11_Good_at alts_nil)) (sums_cons (smOf_ok (alts_cons ref09_Group_at alts_nil)) (sums_cons (smOf_ok (alts_cons ref11_bit_at (alts_cons ref11_bit_v1_at (alts_cons ref11_bit_v2_at (alts_cons ref11_bit_v3_at (alts_cons ref11_bit_v4_at alts_nil)))))) (sums_nil))))) (B := ref11_Frame_B ref11_Good ref09_Group ref11_bit ref11_bit_v1 ref11_bit_v2 ref11_bit_v3 ref11_bit_v4) (hooks_nil) (has bor) 40) fun k => ref11_Frame_eq ref11_Good ref09_Group ref11_bit ref11_bit_v1 ref11_bit_v2 ref11_bit_v3 ref11_bit_v4 _ _ _ _ _ _ _ _ _ _ _ _ k
/- weirgate/frame.room -/
def frame_room_T {α : Type}  (a_1 : Bool) (k0 : Int → Option α) : Option α := bif a_1 then
  k0 1500
 else k0 1504
def frame_room {α : Type} (a_1 : Bool) (k0 : Int → Option α) : Option α := frame_room_T  a_1 k0
def frame_room_S  : List (Nat × Sm) := [(16, yes)]
def frame_room_B  : Hooks := []
theorem frame_room_eq  (a_1 : Bool) (k : FK) : runS tt (has eql) Try.prog.funcs 1152921504606846976 (frame_room_S ) (frame_room_B ) (has bor) 40 76 [.v (.c (.pv (.val (.bool a_1))))] [] k = frame_room_T  a_1 (fun r0 => k (.v (.c (.pv (.val (.int .i64 r0))))) []) := by kernel_rfl
def frame_room_p : PAr := ⟨[.v (.c (.pv (.bool .h)))], []⟩
def frame_room_F (h : List Hole) (k : FK) : Option Out := frame_room (gB h 0) (fun r0 => k (.v (.c (.pv (.val (.int .i64 r0))))) [])
theorem frame_room_at (h : List Hole) : CallAt Try.prog 76 (arFill frame_room_p h).1 (arFill frame_room_p h).2 (frame_room_F h) := by
  have e : arFill frame_room_p h = ([.v (.c (.pv (.val (.bool (gB h 0)))))], []) := by kernel_rfl
  rw [e]; exact callAt_of (runS_ok ttOk eqOk mixed (names_ok namesOk) (S := frame_room_S ) (sums_cons yes16_ok (sums_nil)) (B := frame_room_B ) (hooks_nil) (has bor) 40) fun k => frame_room_eq  _ k
/- weirgate/frame.Good -/
def frame_Good_T {α : Type} (Gmac_Group : Int → (Bool → Option α) → Option α) (Gframe_room : Bool → (Int → Option α) → Option α) (a_1 : Int) (a_2 : Int) (a_3 : Bool) (a_4 : Int) (a_5 : Int) (a_6 : Int) (a_7 : Nat) (a_8 : Nat → Nat → PV) (k0 : Bool → Nat → (Nat → Nat → PV) → Option α) : Option α := bif !((shrI .u64 a_1 48) == 0) then
  k0 false a_7 a_8
 else bif !((shrI .u64 a_2 48) == 0) then
  k0 false a_7 a_8
 else Gmac_Group a_2
  (fun r_9 => bif r_9 then
   k0 false a_7 a_8
  else bif decide (a_6 < 0) then
   k0 false a_7 a_8
  else bif decide (a_6 ≥ 65536) then
   k0 false a_7 a_8
  else bif (a_6 == 33024) then
   k0 false a_7 a_8
  else Gframe_room a_3
   (fun r_10 => bif decide ((a_7 : Int) > r_10) then
    k0 false a_7 a_8
   else bif !a_3 then
    bif (a_4 == 0) then
     k0 (a_5 == 0) a_7 a_8
    else k0 false a_7 a_8
   else bif decide (a_4 ≥ 0) then
    bif decide (a_4 < 8) then
     bif decide (a_5 ≥ 0) then
      k0 (decide (a_5 < 4096)) a_7 a_8
     else k0 false a_7 a_8
    else k0 false a_7 a_8
   else k0 false a_7 a_8))
def frame_Good {α : Type} (a_1 : Int) (a_2 : Int) (a_3 : Bool) (a_4 : Int) (a_5 : Int) (a_6 : Int) (a_7 : Nat) (a_8 : Nat → Nat → PV) (k0 : Bool → Nat → (Nat → Nat → PV) → Option α) : Option α := frame_Good_T mac_Group frame_room a_1 a_2 a_3 a_4 a_5 a_6 a_7 a_8 k0
def frame_Good_S (Gmac_Group : Int → (Bool → Option Out) → Option Out) (Gframe_room : Bool → (Int → Option Out) → Option Out) : List (Nat × Sm) := [(16, yes), (56, smOf [(mac_Group_p, fun h k => Gmac_Group (gI h 0) (fun r0 => k (.v (.c (.pv (.val (.bool r0))))) []))]), (76, smOf [(frame_room_p, fun h k => Gframe_room (gB h 0) (fun r0 => k (.v (.c (.pv (.val (.int .i64 r0))))) []))])]
def frame_Good_B (Gmac_Group : Int → (Bool → Option Out) → Option Out) (Gframe_room : Bool → (Int → Option Out) → Option Out) : Hooks := []
theorem frame_Good_eq (Gmac_Group : Int → (Bool → Option Out) → Option Out) (Gframe_room : Bool → (Int → Option Out) → Option Out) (a_1 : Int) (a_2 : Int) (a_3 : Bool) (a_4 : Int) (a_5 : Int) (a_6 : Int) (a_7 : Nat) (a_8 : Nat → Nat → PV) (k : FK) : runS tt (has eql) Try.prog.funcs 1152921504606846976 (frame_Good_S Gmac_Group Gframe_room) (frame_Good_B Gmac_Group Gframe_room) (has bor) 40 31 [.v (.agg [.pv (.val (.int .u64 a_1)), .pv (.val (.int .u64 a_2)), .pv (.val (.bool a_3)), .pv (.val (.int .i64 a_4)), .pv (.val (.int .i64 a_5)), .pv (.val (.int .i64 a_6)), .own 0])] [.parr false (.int .u8 .nil) 1 a_7 (a_8)] k = frame_Good_T Gmac_Group Gframe_room a_1 a_2 a_3 a_4 a_5 a_6 a_7 a_8 (fun r0 r1 r2 => k (.v (.c (.pv (.val (.bool r0))))) [.parr false (.int .u8 .nil) 1 r1 (r2)]) := by kernel_rfl
def frame_Good_p : PAr := ⟨[.v (.agg [.pv (.int .u64 .h), .pv (.int .u64 .h), .pv (.bool .h), .pv (.int .i64 .h), .pv (.int .i64 .h), .pv (.int .i64 .h), .own 0])], [.parr (.l false) (.int .u8 .nil) 1 .h]⟩
def frame_Good_F (h : List Hole) (k : FK) : Option Out := frame_Good (gI h 0) (gI h 1) (gB h 2) (gI h 3) (gI h 4) (gI h 5) (gN h 6) (gF h 7) (fun r0 r1 r2 => k (.v (.c (.pv (.val (.bool r0))))) [.parr false (.int .u8 .nil) 1 r1 (r2)])
theorem frame_Good_at (h : List Hole) : CallAt Try.prog 31 (arFill frame_Good_p h).1 (arFill frame_Good_p h).2 (frame_Good_F h) := by
  have e : arFill frame_Good_p h = ([.v (.agg [.pv (.val (.int .u64 (gI h 0))), .pv (.val (.int .u64 (gI h 1))), .pv (.val (.bool (gB h 2))), .pv (.val (.int .i64 (gI h 3))), .pv (.val (.int .i64 (gI h 4))), .pv (.val (.int .i64 (gI h 5))), .own 0])], [.parr false (.int .u8 .nil) 1 (gN h 6) ((gF h 7))]) := by kernel_rfl
  rw [e]; exact callAt_of (runS_ok ttOk eqOk mixed (names_ok namesOk) (S := frame_Good_S mac_Group frame_room) (sums_cons yes16_ok (sums_cons (smOf_ok (alts_cons mac_Group_at alts_nil)) (sums_cons (smOf_ok (alts_cons frame_room_at alts_nil)) (sums_nil)))) (B := frame_Good_B mac_Group frame_room) (hooks_nil) (has bor) 40) fun k => frame_Good_eq mac_Group frame_room _ _ _ _ _ _ _ _ k
/- slices.Equal[[]byte,byte] -/
def slices_Equal_byte_byte_T {α : Type}  (a_1 : Nat) (a_2 : Nat → Nat → PV) (a_3 : Nat → Nat → PV) (k0 : Nat → (Nat → Nat → PV) → (Nat → Nat → PV) → Option α) (k1 : Nat → (Nat → Nat → PV) → (Nat → Nat → PV) → Option α) : Option α := bif ((numOf (a_2 0 0)) != (numOf (a_3 0 0))) then
  k0 a_1 a_2 a_3
 else bif ((numOf (a_2 1 0)) != (numOf (a_3 1 0))) then
  k0 a_1 a_2 a_3
 else bif ((numOf (a_2 2 0)) != (numOf (a_3 2 0))) then
  k0 a_1 a_2 a_3
 else bif ((numOf (a_2 3 0)) != (numOf (a_3 3 0))) then
  k0 a_1 a_2 a_3
 else bif ((numOf (a_2 4 0)) != (numOf (a_3 4 0))) then
  k0 a_1 a_2 a_3
 else bif ((numOf (a_2 5 0)) != (numOf (a_3 5 0))) then
  k0 a_1 a_2 a_3
 else bif ((numOf (a_2 6 0)) != (numOf (a_3 6 0))) then
  k0 a_1 a_2 a_3
 else k1 a_1 a_2 a_3
def slices_Equal_byte_byte {α : Type} (a_1 : Nat) (a_2 : Nat → Nat → PV) (a_3 : Nat → Nat → PV) (k0 : Nat → (Nat → Nat → PV) → (Nat → Nat → PV) → Option α) (k1 : Nat → (Nat → Nat → PV) → (Nat → Nat → PV) → Option α) : Option α := slices_Equal_byte_byte_T  a_1 a_2 a_3 k0 k1
def slices_Equal_byte_byte_S  : List (Nat × Sm) := [(16, yes)]
def slices_Equal_byte_byte_B  : Hooks := []
theorem slices_Equal_byte_byte_eq  (a_1 : Nat) (a_2 : Nat → Nat → PV) (a_3 : Nat → Nat → PV) (k : FK) : runS tt (has eql) Try.prog.funcs 1152921504606846976 (slices_Equal_byte_byte_S ) (slices_Equal_byte_byte_B ) (has bor) 40 64 [.v (.c (.pre 0 7)), .v (.c (.own 1))] [.parr false (.int .u8 .nil) 1 a_1 (a_2), .parr false (.int .u8 .nil) 1 7 (a_3)] k = slices_Equal_byte_byte_T  a_1 a_2 a_3 (fun r0 r1 r2 => k (.v (.c (.pv (.val (.bool false))))) [.parr false (.int .u8 .nil) 1 r0 (r1), .parr false (.int .u8 .nil) 1 7 (r2)]) (fun r0 r1 r2 => k (.v (.c (.pv (.val (.bool true))))) [.parr false (.int .u8 .nil) 1 r0 (r1), .parr false (.int .u8 .nil) 1 7 (r2)]) := by kernel_rfl
def slices_Equal_byte_byte_p : PAr := ⟨[.v (.c (.pre 0 (.l 7))), .v (.c (.own 1))], [.parr (.l false) (.int .u8 .nil) 1 .h, .parr (.l false) (.int .u8 .nil) 1 (.l 7)]⟩
def slices_Equal_byte_byte_F (h : List Hole) (k : FK) : Option Out := slices_Equal_byte_byte (gN h 0) (gF h 1) (gF h 2) (fun r0 r1 r2 => k (.v (.c (.pv (.val (.bool false))))) [.parr false (.int .u8 .nil) 1 r0 (r1), .parr false (.int .u8 .nil) 1 7 (r2)]) (fun r0 r1 r2 => k (.v (.c (.pv (.val (.bool true))))) [.parr false (.int .u8 .nil) 1 r0 (r1), .parr false (.int .u8 .nil) 1 7 (r2)])
theorem slices_Equal_byte_byte_at (h : List Hole) : CallAt Try.prog 64 (arFill slices_Equal_byte_byte_p h).1 (arFill slices_Equal_byte_byte_p h).2 (slices_Equal_byte_byte_F h) := by
  have e : arFill slices_Equal_byte_byte_p h = ([.v (.c (.pre 0 7)), .v (.c (.own 1))], [.parr false (.int .u8 .nil) 1 (gN h 0) ((gF h 1)), .parr false (.int .u8 .nil) 1 7 ((gF h 2))]) := by kernel_rfl
  rw [e]; exact callAt_of (runS_ok ttOk eqOk mixed (names_ok namesOk) (S := slices_Equal_byte_byte_S ) (sums_cons yes16_ok (sums_nil)) (B := slices_Equal_byte_byte_B ) (hooks_nil) (has bor) 40) fun k => slices_Equal_byte_byte_eq  _ _ _ k
def e62 (x0 : Nat → Nat → PV) : Int := bits .or .u64 (shlI .u64 (bits .or .u64 0 (IntKind.u64.wrap (numOf (x0 8 0)))) 8) (IntKind.u64.wrap (numOf (x0 9 0)))
def e63 (x0 : Nat → Nat → PV) : Int := bits .or .u64 (shlI .u64 (bits .or .u64 (shlI .u64 (e62 x0) 8) (IntKind.u64.wrap (numOf (x0 10 0)))) 8) (IntKind.u64.wrap (numOf (x0 11 0)))
def e64 (x0 : Nat → Nat → PV) : Int := bits .or .u64 (shlI .u64 (bits .or .u64 (shlI .u64 (e63 x0) 8) (IntKind.u64.wrap (numOf (x0 12 0)))) 8) (IntKind.u64.wrap (numOf (x0 13 0)))
def e65 (x0 : Nat → Nat → PV) : Int := bits .or .u64 (shlI .u64 (bits .or .u64 (shlI .u64 (e64 x0) 8) (IntKind.u64.wrap (numOf (x0 14 0)))) 8) (IntKind.u64.wrap (numOf (x0 15 0)))
def e66 (x0 : Nat → Nat → PV) : Int := shlI .u64 (bits .or .u64 (shlI .u64 (e62 x0) 8) (IntKind.u64.wrap (numOf (x0 10 0)))) 8
def e67 (x0 : Nat → Nat → PV) : Int := bits .or .u64 (shlI .u64 (bits .or .u64 (e66 x0) (IntKind.u64.wrap (numOf (x0 11 0)))) 8) (IntKind.u64.wrap (numOf (x0 12 0)))
def e68 (x0 : Nat → Nat → PV) : Int := shlI .u64 (bits .or .u64 (shlI .u64 (e67 x0) 8) (IntKind.u64.wrap (numOf (x0 13 0)))) 8
def e69 (x0 : Nat → Nat → PV) : Int := bits .or .u64 (shlI .u64 (bits .or .u64 (e68 x0) (IntKind.u64.wrap (numOf (x0 14 0)))) 8) (IntKind.u64.wrap (numOf (x0 15 0)))
def e70 (x0 : Nat → Nat → PV) : Int := bits .or .u64 (shlI .u64 (bits .or .u64 0 (IntKind.u64.wrap (numOf (x0 16 0)))) 8) (IntKind.u64.wrap (numOf (x0 17 0)))
def e71 (x0 : Nat → Nat → PV) : Int := bits .or .u64 (shlI .u64 (bits .or .u64 (shlI .u64 (e70 x0) 8) (IntKind.u64.wrap (numOf (x0 18 0)))) 8) (IntKind.u64.wrap (numOf (x0 19 0)))
def e72 (x0 : Nat → Nat → PV) : Int := shlI .u64 (bits .or .u64 (shlI .u64 (e70 x0) 8) (IntKind.u64.wrap (numOf (x0 18 0)))) 8
def e73 (x0 : Nat → Nat → PV) : Int := bits .or .u64 (shlI .u64 (bits .or .u64 0 (IntKind.u64.wrap (numOf (x0 20 0)))) 8) (IntKind.u64.wrap (numOf (x0 21 0)))
def e74 (x0 : Nat → Nat → PV) : Int := bits .or .u64 (shlI .u64 (bits .or .u64 (shlI .u64 (e73 x0) 8) (IntKind.u64.wrap (numOf (x0 22 0)))) 8) (IntKind.u64.wrap (numOf (x0 23 0)))
def e75 (x0 : Nat → Nat → PV) : Int := bits .or .u64 (shlI .u64 (bits .or .u64 (shlI .u64 (e74 x0) 8) (IntKind.u64.wrap (numOf (x0 24 0)))) 8) (IntKind.u64.wrap (numOf (x0 25 0)))
def e76 (x0 : Nat → Nat → PV) : Int := bits .or .u64 (shlI .u64 (bits .or .u64 (shlI .u64 (e75 x0) 8) (IntKind.u64.wrap (numOf (x0 26 0)))) 8) (IntKind.u64.wrap (numOf (x0 27 0)))
def e77 (x0 : Nat → Nat → PV) : Int := shlI .u64 (bits .or .u64 (shlI .u64 (e73 x0) 8) (IntKind.u64.wrap (numOf (x0 22 0)))) 8
def e78 (x0 : Nat → Nat → PV) : Int := bits .or .u64 (shlI .u64 (bits .or .u64 (e77 x0) (IntKind.u64.wrap (numOf (x0 23 0)))) 8) (IntKind.u64.wrap (numOf (x0 24 0)))
def e79 (x0 : Nat → Nat → PV) : Int := shlI .u64 (bits .or .u64 (shlI .u64 (e78 x0) 8) (IntKind.u64.wrap (numOf (x0 25 0)))) 8
def e80 (x0 : Nat → Nat → PV) : Int := bits .or .u64 (shlI .u64 (bits .or .u64 (e79 x0) (IntKind.u64.wrap (numOf (x0 26 0)))) 8) (IntKind.u64.wrap (numOf (x0 27 0)))
def e81 (x0 : Nat → Nat → PV) : Int := bits .or .u64 (shlI .u64 (bits .or .u64 0 (IntKind.u64.wrap (numOf (x0 28 0)))) 8) (IntKind.u64.wrap (numOf (x0 29 0)))
def e82 (x0 : Nat → Nat → PV) : Int := bits .or .u64 (shlI .u64 (bits .or .u64 0 (IntKind.u64.wrap (numOf (x0 30 0)))) 8) (IntKind.u64.wrap (numOf (x0 31 0)))
def e83 (x0 : Nat → Nat → PV) : Int := bits .and .u8 (shrI .u8 (IntKind.u8.wrap (bits .or .u64 0 (IntKind.u64.wrap (numOf (x0 7 0))))) 2) 3
def e84 (x0 : Nat → Nat → PV) : Bool := ((bits .and .u8 (IntKind.u8.wrap (bits .or .u64 0 (IntKind.u64.wrap (numOf (x0 7 0))))) 1) != 0)
def e85 (x0 : Nat → Nat → PV) : Bool := ((bits .and .u8 (IntKind.u8.wrap (bits .or .u64 0 (IntKind.u64.wrap (numOf (x0 7 0))))) 2) != 0)
def e86 (x0 : Nat → Nat → PV) : Int := bits .and .u8 (IntKind.u8.wrap (bits .or .u64 0 (IntKind.u64.wrap (numOf (x0 7 0))))) 64
def e87 (x0 : Nat → Nat → PV) : Int := bits .and .u8 (IntKind.u8.wrap (bits .or .u64 0 (IntKind.u64.wrap (numOf (x0 7 0))))) 16
def e88 (x0 : Nat → Nat → PV) : Int := bits .and .u8 (IntKind.u8.wrap (bits .or .u64 0 (IntKind.u64.wrap (numOf (x0 7 0))))) 32
def e89 (x0 : Nat → Nat → PV) : Int := bits .and .u8 (IntKind.u8.wrap (bits .or .u64 0 (IntKind.u64.wrap (numOf (x0 7 0))))) 128
/- weirgate/bpdu.Parse -/
def bpdu_Parse_T {α : Type} (Gframe_Good : Int → Int → Bool → Int → Int → Int → Nat → (Nat → Nat → PV) → (Bool → Nat → (Nat → Nat → PV) → Option α) → Option α) (Gslices_Equal_byte_byte : Nat → (Nat → Nat → PV) → (Nat → Nat → PV) → (Nat → (Nat → Nat → PV) → (Nat → Nat → PV) → Option α) → (Nat → (Nat → Nat → PV) → (Nat → Nat → PV) → Option α) → Option α) (Gbpdu_Good : Int → Int → Int → Int → Int → Int → Bool → Bool → Bool → Bool → Bool → (Bool → Option α) → Option α) (a_1 : Int) (a_2 : Int) (a_3 : Bool) (a_4 : Int) (a_5 : Int) (a_6 : Int) (a_7 : Nat) (a_8 : Nat → Nat → PV) (k0 : Nat → (Nat → Nat → PV) → Option α) (k1 : Int → Int → Int → Int → Int → Int → Bool → Bool → Bool → Bool → Bool → Nat → (Nat → Nat → PV) → Option α) : Option α := bif !(a_1 == 1652522221568) then
  k0 a_7 a_8
 else Gframe_Good a_1 a_2 a_3 a_4 a_5 a_6 a_7 a_8
  (fun r_9 r_10 r_11 => bif !r_9 then
   k0 r_10 r_11
  else bif a_3 then
   k0 r_10 r_11
  else bif (a_6 != 39) then
   k0 r_10 r_11
  else bif decide ((r_10 : Int) < 39) then
   k0 r_10 r_11
  else bif inb 7 (r_10 + 1) then
   Gslices_Equal_byte_byte r_10 r_11 e1
    (fun r_12 r_13 r_14 => k0 r_12 r_13)
    (fun r_12 r_13 r_14 => bif inb (r_12 : Int) (r_12 + 1) then
     bif decide (7 ≤ (r_12 : Int)) then
      bif inb 1 ((r_12 - 7) + 1) then
       bif inb ((r_12 - 7 : Nat) : Int) ((r_12 - 7) + 1) then
        bif decide (1 ≤ ((r_12 - 7 : Nat) : Int)) then
         bif inb 8 (((r_12 - 7) - 1) + 1) then
          bif inb (((r_12 - 7) - 1 : Nat) : Int) (((r_12 - 7) - 1) + 1) then
           bif decide (8 ≤ (((r_12 - 7) - 1 : Nat) : Int)) then
            bif inb 4 ((((r_12 - 7) - 1) - 8) + 1) then
             bif inb ((((r_12 - 7) - 1) - 8 : Nat) : Int) ((((r_12 - 7) - 1) - 8) + 1) then
              bif decide (4 ≤ ((((r_12 - 7) - 1) - 8 : Nat) : Int)) then
               bif inb 8 (((((r_12 - 7) - 1) - 8) - 4) + 1) then
                bif inb (((((r_12 - 7) - 1) - 8) - 4 : Nat) : Int) (((((r_12 - 7) - 1) - 8) - 4) + 1) then
                 bif decide (8 ≤ (((((r_12 - 7) - 1) - 8) - 4 : Nat) : Int)) then
                  bif inb 2 ((((((r_12 - 7) - 1) - 8) - 4) - 8) + 1) then
                   bif inb ((((((r_12 - 7) - 1) - 8) - 4) - 8 : Nat) : Int) ((((((r_12 - 7) - 1) - 8) - 4) - 8) + 1) then
                    bif decide (2 ≤ ((((((r_12 - 7) - 1) - 8) - 4) - 8 : Nat) : Int)) then
                     bif inb 2 (((((((r_12 - 7) - 1) - 8) - 4) - 8) - 2) + 1) then
                      bif inb (((((((r_12 - 7) - 1) - 8) - 4) - 8) - 2 : Nat) : Int) (((((((r_12 - 7) - 1) - 8) - 4) - 8) - 2) + 1) then
                       bif decide (2 ≤ (((((((r_12 - 7) - 1) - 8) - 4) - 8) - 2 : Nat) : Int)) then
                        bif ((e89 r_13) != 0) then
                         k0 r_12 r_13
                        else Gbpdu_Good (e69 r_13) (IntKind.u32.wrap (bits .or .u64 (e72 r_13) (IntKind.u64.wrap (numOf (r_13 19 0))))) (e80 r_13) (IntKind.i64.wrap (e81 r_13)) (IntKind.i64.wrap (e82 r_13)) (IntKind.i64.wrap (e83 r_13)) (e85 r_13) ((e86 r_13) != 0) ((e87 r_13) != 0) ((e88 r_13) != 0) (e84 r_13)
                         (fun r_15 => bif !r_15 then
                          k0 r_12 r_13
                         else k1 (e69 r_13) (IntKind.u32.wrap (bits .or .u64 (e72 r_13) (IntKind.u64.wrap (numOf (r_13 19 0))))) (e80 r_13) (IntKind.i64.wrap (e81 r_13)) (IntKind.i64.wrap (e82 r_13)) (IntKind.i64.wrap (e83 r_13)) (e85 r_13) ((e86 r_13) != 0) ((e87 r_13) != 0) ((e88 r_13) != 0) (e84 r_13) r_12 r_13)
                       else none /- test -/
                      else none /- test -/
                     else none /- test -/
                    else none /- test -/
                   else none /- test -/
                  else none /- test -/
                 else none /- test -/
                else none /- test -/
               else none /- test -/
              else none /- test -/
             else none /- test -/
            else none /- test -/
           else none /- test -/
          else none /- test -/
         else none /- test -/
        else none /- test -/
       else none /- test -/
      else none /- test -/
     else none /- test -/
    else none /- test -/)
  else none /- test -/)
def bpdu_Parse {α : Type} (a_1 : Int) (a_2 : Int) (a_3 : Bool) (a_4 : Int) (a_5 : Int) (a_6 : Int) (a_7 : Nat) (a_8 : Nat → Nat → PV) (k0 : Nat → (Nat → Nat → PV) → Option α) (k1 : Int → Int → Int → Int → Int → Int → Bool → Bool → Bool → Bool → Bool → Nat → (Nat → Nat → PV) → Option α) : Option α := bpdu_Parse_T frame_Good slices_Equal_byte_byte bpdu_Good a_1 a_2 a_3 a_4 a_5 a_6 a_7 a_8 k0 k1
def bpdu_Parse_S (Gframe_Good : Int → Int → Bool → Int → Int → Int → Nat → (Nat → Nat → PV) → (Bool → Nat → (Nat → Nat → PV) → Option Out) → Option Out) (Gslices_Equal_byte_byte : Nat → (Nat → Nat → PV) → (Nat → Nat → PV) → (Nat → (Nat → Nat → PV) → (Nat → Nat → PV) → Option Out) → (Nat → (Nat → Nat → PV) → (Nat → Nat → PV) → Option Out) → Option Out) (Gbpdu_Good : Int → Int → Int → Int → Int → Int → Bool → Bool → Bool → Bool → Bool → (Bool → Option Out) → Option Out) : List (Nat × Sm) := [(16, yes), (31, smOf [(frame_Good_p, fun h k => Gframe_Good (gI h 0) (gI h 1) (gB h 2) (gI h 3) (gI h 4) (gI h 5) (gN h 6) (gF h 7) (fun r0 r1 r2 => k (.v (.c (.pv (.val (.bool r0))))) [.parr false (.int .u8 .nil) 1 r1 (r2)]))]), (64, smOf [(slices_Equal_byte_byte_p, fun h k => Gslices_Equal_byte_byte (gN h 0) (gF h 1) (gF h 2) (fun r0 r1 r2 => k (.v (.c (.pv (.val (.bool false))))) [.parr false (.int .u8 .nil) 1 r0 (r1), .parr false (.int .u8 .nil) 1 7 (r2)]) (fun r0 r1 r2 => k (.v (.c (.pv (.val (.bool true))))) [.parr false (.int .u8 .nil) 1 r0 (r1), .parr false (.int .u8 .nil) 1 7 (r2)]))]), (21, smOf [(bpdu_Good_p, fun h k => Gbpdu_Good (gI h 0) (gI h 1) (gI h 2) (gI h 3) (gI h 4) (gI h 5) (gB h 6) (gB h 7) (gB h 8) (gB h 9) (gB h 10) (fun r0 => k (.v (.c (.pv (.val (.bool r0))))) []))])]
def bpdu_Parse_B (Gframe_Good : Int → Int → Bool → Int → Int → Int → Nat → (Nat → Nat → PV) → (Bool → Nat → (Nat → Nat → PV) → Option Out) → Option Out) (Gslices_Equal_byte_byte : Nat → (Nat → Nat → PV) → (Nat → Nat → PV) → (Nat → (Nat → Nat → PV) → (Nat → Nat → PV) → Option Out) → (Nat → (Nat → Nat → PV) → (Nat → Nat → PV) → Option Out) → Option Out) (Gbpdu_Good : Int → Int → Int → Int → Int → Int → Bool → Bool → Bool → Bool → Bool → (Bool → Option Out) → Option Out) : Hooks := []
theorem bpdu_Parse_eq (Gframe_Good : Int → Int → Bool → Int → Int → Int → Nat → (Nat → Nat → PV) → (Bool → Nat → (Nat → Nat → PV) → Option Out) → Option Out) (Gslices_Equal_byte_byte : Nat → (Nat → Nat → PV) → (Nat → Nat → PV) → (Nat → (Nat → Nat → PV) → (Nat → Nat → PV) → Option Out) → (Nat → (Nat → Nat → PV) → (Nat → Nat → PV) → Option Out) → Option Out) (Gbpdu_Good : Int → Int → Int → Int → Int → Int → Bool → Bool → Bool → Bool → Bool → (Bool → Option Out) → Option Out) (a_1 : Int) (a_2 : Int) (a_3 : Bool) (a_4 : Int) (a_5 : Int) (a_6 : Int) (a_7 : Nat) (a_8 : Nat → Nat → PV) (k : FK) : runS tt (has eql) Try.prog.funcs 1152921504606846976 (bpdu_Parse_S Gframe_Good Gslices_Equal_byte_byte Gbpdu_Good) (bpdu_Parse_B Gframe_Good Gslices_Equal_byte_byte Gbpdu_Good) (has bor) 40 19 [.v (.agg [.pv (.val (.int .u64 a_1)), .pv (.val (.int .u64 a_2)), .pv (.val (.bool a_3)), .pv (.val (.int .i64 a_4)), .pv (.val (.int .i64 a_5)), .pv (.val (.int .i64 a_6)), .own 0])] [.parr false (.int .u8 .nil) 1 a_7 (a_8)] k = bpdu_Parse_T Gframe_Good Gslices_Equal_byte_byte Gbpdu_Good a_1 a_2 a_3 a_4 a_5 a_6 a_7 a_8 (fun r0 r1 => k (.tup [.agg [.pv (.val (.int .u64 0)), .pv (.val (.int .u32 0)), .pv (.val (.int .u64 0)), .pv (.val (.int .i64 0)), .pv (.val (.int .i64 0)), .pv (.val (.int .i64 0)), .pv (.val (.bool false)), .pv (.val (.bool false)), .pv (.val (.bool false)), .pv (.val (.bool false)), .pv (.val (.bool false))], .c (.pv (.val (.int .i64 11)))]) [.parr false (.int .u8 .nil) 1 r0 (r1)]) (fun r0 r1 r2 r3 r4 r5 r6 r7 r8 r9 r10 r11 r12 => k (.tup [.agg [.pv (.val (.int .u64 r0)), .pv (.val (.int .u32 r1)), .pv (.val (.int .u64 r2)), .pv (.val (.int .i64 r3)), .pv (.val (.int .i64 r4)), .pv (.val (.int .i64 r5)), .pv (.val (.bool r6)), .pv (.val (.bool r7)), .pv (.val (.bool r8)), .pv (.val (.bool r9)), .pv (.val (.bool r10))], .c (.pv (.val (.int .i64 0)))]) [.parr false (.int .u8 .nil) 1 r11 (r12)]) := by kernel_rfl
def bpdu_Parse_p : PAr := ⟨[.v (.agg [.pv (.int .u64 .h), .pv (.int .u64 .h), .pv (.bool .h), .pv (.int .i64 .h), .pv (.int .i64 .h), .pv (.int .i64 .h), .own 0])], [.parr (.l false) (.int .u8 .nil) 1 .h]⟩
def bpdu_Parse_F (h : List Hole) (k : FK) : Option Out := bpdu_Parse (gI h 0) (gI h 1) (gB h 2) (gI h 3) (gI h 4) (gI h 5) (gN h 6) (gF h 7) (fun r0 r1 => k (.tup [.agg [.pv (.val (.int .u64 0)), .pv (.val (.int .u32 0)), .pv (.val (.int .u64 0)), .pv (.val (.int .i64 0)), .pv (.val (.int .i64 0)), .pv (.val (.int .i64 0)), .pv (.val (.bool false)), .pv (.val (.bool false)), .pv (.val (.bool false)), .pv (.val (.bool false)), .pv (.val (.bool false))], .c (.pv (.val (.int .i64 11)))]) [.parr false (.int .u8 .nil) 1 r0 (r1)]) (fun r0 r1 r2 r3 r4 r5 r6 r7 r8 r9 r10 r11 r12 => k (.tup [.agg [.pv (.val (.int .u64 r0)), .pv (.val (.int .u32 r1)), .pv (.val (.int .u64 r2)), .pv (.val (.int .i64 r3)), .pv (.val (.int .i64 r4)), .pv (.val (.int .i64 r5)), .pv (.val (.bool r6)), .pv (.val (.bool r7)), .pv (.val (.bool r8)), .pv (.val (.bool r9)), .pv (.val (.bool r10))], .c (.pv (.val (.int .i64 0)))]) [.parr false (.int .u8 .nil) 1 r11 (r12)])
theorem bpdu_Parse_at (h : List Hole) : CallAt Try.prog 19 (arFill bpdu_Parse_p h).1 (arFill bpdu_Parse_p h).2 (bpdu_Parse_F h) := by
  have e : arFill bpdu_Parse_p h = ([.v (.agg [.pv (.val (.int .u64 (gI h 0))), .pv (.val (.int .u64 (gI h 1))), .pv (.val (.bool (gB h 2))), .pv (.val (.int .i64 (gI h 3))), .pv (.val (.int .i64 (gI h 4))), .pv (.val (.int .i64 (gI h 5))), .own 0])], [.parr false (.int .u8 .nil) 1 (gN h 6) ((gF h 7))]) := by kernel_rfl
  rw [e]; exact callAt_of (runS_ok ttOk eqOk mixed (names_ok namesOk) (S := bpdu_Parse_S frame_Good slices_Equal_byte_byte bpdu_Good) (sums_cons yes16_ok (sums_cons (smOf_ok (alts_cons frame_Good_at alts_nil)) (sums_cons (smOf_ok (alts_cons slices_Equal_byte_byte_at alts_nil)) (sums_cons (smOf_ok (alts_cons bpdu_Good_at alts_nil)) (sums_nil))))) (B := bpdu_Parse_B frame_Good slices_Equal_byte_byte bpdu_Good) (hooks_nil) (has bor) 40) fun k => bpdu_Parse_eq frame_Good slices_Equal_byte_byte bpdu_Good _ _ _ _ _ _ _ _ k
/- weirgate/weirgateref10.Good -/
def ref10_Good_T {α : Type} (Gref09_Group : Int → (Bool → Option α) → Option α) (a_1 : Int) (a_2 : Int) (a_3 : Bool) (a_4 : Int) (a_5 : Int) (a_6 : Int) (a_7 : Bool) (a_8 : Nat) (a_9 : Nat → Nat → PV) (k0 : Bool → Option α) : Option α := bif a_3 then
  bif !(decide (a_1 < 281474976710656)) then
   k0 false
  else bif !(decide (a_2 < 281474976710656)) then
   k0 false
  else Gref09_Group a_2
   (fun r_10 => bif r_10 then
    k0 false
   else bif decide (a_6 < 0) then
    k0 false
   else bif decide (a_6 > 65535) then
    k0 false
   else bif (a_6 == 33024) then
    k0 false
   else bif decide ((a_8 : Int) > 1500) then
    k0 false
   else bif !a_3 then
    bif (a_4 == 0) then
     k0 (a_5 == 0)
    else k0 false
   else bif decide (a_4 ≥ 0) then
    bif decide (a_4 ≤ 7) then
     bif decide (a_5 ≥ 0) then
      k0 (decide (a_5 ≤ 4095))
     else k0 false
    else k0 false
   else k0 false)
 else bif !(decide (a_1 < 281474976710656)) then
  k0 false
 else bif !(decide (a_2 < 281474976710656)) then
  k0 false
 else Gref09_Group a_2
  (fun r_10 => bif r_10 then
   k0 false
  else bif decide (a_6 < 0) then
   k0 false
  else bif decide (a_6 > 65535) then
   k0 false
  else bif (a_6 == 33024) then
   k0 false
  else bif decide ((a_8 : Int) > 1504) then
   k0 false
  else bif !a_3 then
   bif (a_4 == 0) then
    k0 (a_5 == 0)
   else k0 false
  else bif decide (a_4 ≥ 0) then
   bif decide (a_4 ≤ 7) then
    bif decide (a_5 ≥ 0) then
     k0 (decide (a_5 ≤ 4095))
    else k0 false
   else k0 false
  else k0 false)
def ref10_Good {α : Type} (a_1 : Int) (a_2 : Int) (a_3 : Bool) (a_4 : Int) (a_5 : Int) (a_6 : Int) (a_7 : Bool) (a_8 : Nat) (a_9 : Nat → Nat → PV) (k0 : Bool → Option α) : Option α := ref10_Good_T ref09_Group a_1 a_2 a_3 a_4 a_5 a_6 a_7 a_8 a_9 k0
def ref10_Good_S (Gref09_Group : Int → (Bool → Option Out) → Option Out) : List (Nat × Sm) := [(16, yes), (61, smOf [(ref09_Group_p, fun h k => Gref09_Group (gI h 0) (fun r0 => k (.v (.c (.pv (.val (.bool r0))))) []))])]
def ref10_Good_B (Gref09_Group : Int → (Bool → Option Out) → Option Out) : Hooks := []
theorem ref10_Good_eq (Gref09_Group : Int → (Bool → Option Out) → Option Out) (a_1 : Int) (a_2 : Int) (a_3 : Bool) (a_4 : Int) (a_5 : Int) (a_6 : Int) (a_7 : Bool) (a_8 : Nat) (a_9 : Nat → Nat → PV) (k : FK) : runS tt (has eql) Try.prog.funcs 1152921504606846976 (ref10_Good_S Gref09_Group) (ref10_Good_B Gref09_Group) (has bor) 40 32 [.v (.agg [.pv (.val (.int .u64 a_1)), .pv (.val (.int .u64 a_2)), .pv (.val (.bool a_3)), .pv (.val (.int .i64 a_4)), .pv (.val (.int .i64 a_5)), .pv (.val (.int .i64 a_6)), .pv (.sl a_7 (.int .u8 .nil) 1 a_8 (a_9))])] [] k = ref10_Good_T Gref09_Group a_1 a_2 a_3 a_4 a_5 a_6 a_7 a_8 a_9 (fun r0 => k (.v (.c (.pv (.val (.bool r0))))) []) := by kernel_rfl
def ref10_Good_p : PAr := ⟨[.v (.agg [.pv (.int .u64 .h), .pv (.int .u64 .h), .pv (.bool .h), .pv (.int .i64 .h), .pv (.int .i64 .h), .pv (.int .i64 .h), .pv (.sl .h (.int .u8 .nil) 1 .h)])], []⟩
def ref10_Good_F (h : List Hole) (k : FK) : Option Out := ref10_Good (gI h 0) (gI h 1) (gB h 2) (gI h 3) (gI h 4) (gI h 5) (gB h 6) (gN h 7) (gF h 8) (fun r0 => k (.v (.c (.pv (.val (.bool r0))))) [])
theorem ref10_Good_at (h : List Hole) : CallAt Try.prog 32 (arFill ref10_Good_p h).1 (arFill ref10_Good_p h).2 (ref10_Good_F h) := by
  have e : arFill ref10_Good_p h = ([.v (.agg [.pv (.val (.int .u64 (gI h 0))), .pv (.val (.int .u64 (gI h 1))), .pv (.val (.bool (gB h 2))), .pv (.val (.int .i64 (gI h 3))), .pv (.val (.int .i64 (gI h 4))), .pv (.val (.int .i64 (gI h 5))), .pv (.sl (gB h 6) (.int .u8 .nil) 1 (gN h 7) ((gF h 8)))])], []) := by kernel_rfl
  rw [e]; exact callAt_of (runS_ok ttOk eqOk mixed (names_ok namesOk) (S := ref10_Good_S ref09_Group) (sums_cons yes16_ok (sums_cons (smOf_ok (alts_cons ref09_Group_at alts_nil)) (sums_nil))) (B := ref10_Good_B ref09_Group) (hooks_nil) (has bor) 40) fun k => ref10_Good_eq ref09_Group _ _ _ _ _ _ _ _ _ k
def e90 (x0 : Nat → Nat → PV) : Bool := !((strOf 7 (fun j c => (x0) (0 + j) c)).toList == (⟨#[66, 66, 3, 0, 0, 2, 2]⟩ : ByteArray).toList)
def e91 (x0 : Nat → Nat → PV) : Int := IntKind.u64.wrap ((shlI .u64 (IntKind.u64.wrap (0 + (IntKind.u64.wrap (numOf (x0 0 0))))) 8) + (IntKind.u64.wrap (numOf (x0 1 0))))
def e92 (x0 : Nat → Nat → PV) : Int := shlI .u64 (IntKind.u64.wrap ((shlI .u64 (e91 x0) 8) + (IntKind.u64.wrap (numOf (x0 2 0))))) 8
def e93 (x0 : Nat → Nat → PV) : Int := IntKind.u64.wrap ((shlI .u64 (IntKind.u64.wrap ((e92 x0) + (IntKind.u64.wrap (numOf (x0 3 0))))) 8) + (IntKind.u64.wrap (numOf (x0 4 0))))
def e94 (x0 : Nat → Nat → PV) : Int := shlI .u64 (IntKind.u64.wrap ((shlI .u64 (e93 x0) 8) + (IntKind.u64.wrap (numOf (x0 5 0))))) 8
def e95 (x0 : Nat → Nat → PV) : Int := IntKind.u64.wrap ((shlI .u64 (IntKind.u64.wrap ((e94 x0) + (IntKind.u64.wrap (numOf (x0 6 0))))) 8) + (IntKind.u64.wrap (numOf (x0 7 0))))
def e96 (x0 : Nat → Nat → PV) : Int := IntKind.u64.wrap ((shlI .u64 (IntKind.u64.wrap (0 + (IntKind.u64.wrap (numOf (x0 8 0))))) 8) + (IntKind.u64.wrap (numOf (x0 9 0))))
def e97 (x0 : Nat → Nat → PV) : Int := shlI .u64 (IntKind.u64.wrap ((shlI .u64 (e96 x0) 8) + (IntKind.u64.wrap (numOf (x0 10 0))))) 8
def e98 (x0 : Nat → Nat → PV) : Int := IntKind.u64.wrap ((shlI .u64 (IntKind.u64.wrap ((e97 x0) + (IntKind.u64.wrap (numOf (x0 11 0))))) 8) + (IntKind.u64.wrap (numOf (x0 12 0))))
def e99 (x0 : Nat → Nat → PV) : Int := shlI .u64 (IntKind.u64.wrap ((shlI .u64 (e98 x0) 8) + (IntKind.u64.wrap (numOf (x0 13 0))))) 8
def e100 (x0 : Nat → Nat → PV) : Int := IntKind.u64.wrap ((shlI .u64 (IntKind.u64.wrap ((e99 x0) + (IntKind.u64.wrap (numOf (x0 14 0))))) 8) + (IntKind.u64.wrap (numOf (x0 15 0))))
def e101 (x0 : Nat → Nat → PV) : Int := IntKind.u64.wrap ((shlI .u64 (IntKind.u64.wrap (0 + (IntKind.u64.wrap (numOf (x0 16 0))))) 8) + (IntKind.u64.wrap (numOf (x0 17 0))))
def e102 (x0 : Nat → Nat → PV) : Int := shlI .u64 (IntKind.u64.wrap ((shlI .u64 (e101 x0) 8) + (IntKind.u64.wrap (numOf (x0 18 0))))) 8
def e103 (x0 : Nat → Nat → PV) : Int := IntKind.u64.wrap ((shlI .u64 (IntKind.u64.wrap (0 + (IntKind.u64.wrap (numOf (x0 20 0))))) 8) + (IntKind.u64.wrap (numOf (x0 21 0))))
def e104 (x0 : Nat → Nat → PV) : Int := shlI .u64 (IntKind.u64.wrap ((shlI .u64 (e103 x0) 8) + (IntKind.u64.wrap (numOf (x0 22 0))))) 8
def e105 (x0 : Nat → Nat → PV) : Int := IntKind.u64.wrap ((shlI .u64 (IntKind.u64.wrap ((e104 x0) + (IntKind.u64.wrap (numOf (x0 23 0))))) 8) + (IntKind.u64.wrap (numOf (x0 24 0))))
def e106 (x0 : Nat → Nat → PV) : Int := shlI .u64 (IntKind.u64.wrap ((shlI .u64 (e105 x0) 8) + (IntKind.u64.wrap (numOf (x0 25 0))))) 8
def e107 (x0 : Nat → Nat → PV) : Int := IntKind.u64.wrap ((shlI .u64 (IntKind.u64.wrap ((e106 x0) + (IntKind.u64.wrap (numOf (x0 26 0))))) 8) + (IntKind.u64.wrap (numOf (x0 27 0))))
def e108 (x0 : Nat → Nat → PV) : Int := IntKind.u64.wrap ((shlI .u64 (IntKind.u64.wrap (0 + (IntKind.u64.wrap (numOf (x0 28 0))))) 8) + (IntKind.u64.wrap (numOf (x0 29 0))))
def e109 (x0 : Nat → Nat → PV) : Int := IntKind.u64.wrap ((shlI .u64 (IntKind.u64.wrap (0 + (IntKind.u64.wrap (numOf (x0 30 0))))) 8) + (IntKind.u64.wrap (numOf (x0 31 0))))
/- weirgate/weirgateref11.Parse -/
def ref11_Parse_T {α : Type} (Gref10_Good : Int → Int → Bool → Int → Int → Int → Bool → Nat → (Nat → Nat → PV) → (Bool → Option α) → Option α) (Gref11_Good : Int → Int → Int → Int → Int → Int → Bool → Bool → Bool → Bool → Bool → (Bool → Option α) → Option α) (a_1 : Int) (a_2 : Int) (a_3 : Bool) (a_4 : Int) (a_5 : Int) (a_6 : Int) (a_7 : Bool) (a_8 : Nat) (a_9 : Nat → Nat → PV) (k0 : Option α) (k1 : Int → Int → Int → Int → Int → Int → Bool → Bool → Bool → Bool → Bool → Option α) : Option α := Gref10_Good a_1 a_2 a_3 a_4 a_5 a_6 a_7 a_8 a_9
  (fun r_10 => bif !r_10 then
   k0
  else bif (a_1 != 1652522221568) then
   k0
  else bif a_3 then
   k0
  else bif (a_6 != 39) then
   k0
  else bif decide ((a_8 : Int) < 39) then
   k0
  else bif inb 7 (a_8 + 1) then
   bif e90 a_9 then
    k0
   else bif inb 7 a_8 then
    bif ((bits .and .u8 (numOf (a_9 7 0)) 128) != 0) then
     k0
    else bif inb 16 (a_8 + 1) then
     bif inb 20 (a_8 + 1) then
      bif inb 28 (a_8 + 1) then
       bif inb 30 (a_8 + 1) then
        bif inb 32 (a_8 + 1) then
         bif inb 7 a_8 then
          bif inb 7 a_8 then
           bif inb 7 a_8 then
            bif inb 7 a_8 then
             bif inb 7 a_8 then
              bif inb 7 a_8 then
               Gref11_Good (e100 a_9) (IntKind.u32.wrap (IntKind.u64.wrap ((e102 a_9) + (IntKind.u64.wrap (numOf (a_9 19 0)))))) (e107 a_9) (IntKind.i64.wrap (e108 a_9)) (IntKind.i64.wrap (e109 a_9)) (IntKind.i64.wrap (bits .and .u8 (shrI .u8 (numOf (a_9 7 0)) 2) 3)) ((bits .and .u8 (numOf (a_9 7 0)) 2) != 0) ((bits .and .u8 (numOf (a_9 7 0)) 64) != 0) ((bits .and .u8 (numOf (a_9 7 0)) 16) != 0) ((bits .and .u8 (numOf (a_9 7 0)) 32) != 0) ((bits .and .u8 (numOf (a_9 7 0)) 1) != 0)
                (fun r_11 => bif !r_11 then
                 k0
                else k1 (e100 a_9) (IntKind.u32.wrap (IntKind.u64.wrap ((e102 a_9) + (IntKind.u64.wrap (numOf (a_9 19 0)))))) (e107 a_9) (IntKind.i64.wrap (e108 a_9)) (IntKind.i64.wrap (e109 a_9)) (IntKind.i64.wrap (bits .and .u8 (shrI .u8 (numOf (a_9 7 0)) 2) 3)) ((bits .and .u8 (numOf (a_9 7 0)) 2) != 0) ((bits .and .u8 (numOf (a_9 7 0)) 64) != 0) ((bits .and .u8 (numOf (a_9 7 0)) 16) != 0) ((bits .and .u8 (numOf (a_9 7 0)) 32) != 0) ((bits .and .u8 (numOf (a_9 7 0)) 1) != 0))
              else none /- test -/
             else none /- test -/
            else none /- test -/
           else none /- test -/
          else none /- test -/
         else none /- test -/
        else none /- test -/
       else none /- test -/
      else none /- test -/
     else none /- test -/
    else none /- test -/
   else none /- test -/
  else none /- test -/)
def ref11_Parse {α : Type} (a_1 : Int) (a_2 : Int) (a_3 : Bool) (a_4 : Int) (a_5 : Int) (a_6 : Int) (a_7 : Bool) (a_8 : Nat) (a_9 : Nat → Nat → PV) (k0 : Option α) (k1 : Int → Int → Int → Int → Int → Int → Bool → Bool → Bool → Bool → Bool → Option α) : Option α := ref11_Parse_T ref10_Good ref11_Good a_1 a_2 a_3 a_4 a_5 a_6 a_7 a_8 a_9 k0 k1
def ref11_Parse_S (Gref10_Good : Int → Int → Bool → Int → Int → Int → Bool → Nat → (Nat → Nat → PV) → (Bool → Option Out) → Option Out) (Gref11_Good : Int → Int → Int → Int → Int → Int → Bool → Bool → Bool → Bool → Bool → (Bool → Option Out) → Option Out) : List (Nat × Sm) := [(16, yes), (32, smOf [(ref10_Good_p, fun h k => Gref10_Good (gI h 0) (gI h 1) (gB h 2) (gI h 3) (gI h 4) (gI h 5) (gB h 6) (gN h 7) (gF h 8) (fun r0 => k (.v (.c (.pv (.val (.bool r0))))) []))]), (22, smOf [(ref11_Good_p, fun h k => Gref11_Good (gI h 0) (gI h 1) (gI h 2) (gI h 3) (gI h 4) (gI h 5) (gB h 6) (gB h 7) (gB h 8) (gB h 9) (gB h 10) (fun r0 => k (.v (.c (.pv (.val (.bool r0))))) []))])]
def ref11_Parse_B (Gref10_Good : Int → Int → Bool → Int → Int → Int → Bool → Nat → (Nat → Nat → PV) → (Bool → Option Out) → Option Out) (Gref11_Good : Int → Int → Int → Int → Int → Int → Bool → Bool → Bool → Bool → Bool → (Bool → Option Out) → Option Out) : Hooks := []
theorem ref11_Parse_eq (Gref10_Good : Int → Int → Bool → Int → Int → Int → Bool → Nat → (Nat → Nat → PV) → (Bool → Option Out) → Option Out) (Gref11_Good : Int → Int → Int → Int → Int → Int → Bool → Bool → Bool → Bool → Bool → (Bool → Option Out) → Option Out) (a_1 : Int) (a_2 : Int) (a_3 : Bool) (a_4 : Int) (a_5 : Int) (a_6 : Int) (a_7 : Bool) (a_8 : Nat) (a_9 : Nat → Nat → PV) (k : FK) : runS tt (has eql) Try.prog.funcs 1152921504606846976 (ref11_Parse_S Gref10_Good Gref11_Good) (ref11_Parse_B Gref10_Good Gref11_Good) (has bor) 40 20 [.v (.agg [.pv (.val (.int .u64 a_1)), .pv (.val (.int .u64 a_2)), .pv (.val (.bool a_3)), .pv (.val (.int .i64 a_4)), .pv (.val (.int .i64 a_5)), .pv (.val (.int .i64 a_6)), .pv (.sl a_7 (.int .u8 .nil) 1 a_8 (a_9))])] [] k = ref11_Parse_T Gref10_Good Gref11_Good a_1 a_2 a_3 a_4 a_5 a_6 a_7 a_8 a_9 (k (.tup [.agg [.pv (.val (.int .u64 0)), .pv (.val (.int .u32 0)), .pv (.val (.int .u64 0)), .pv (.val (.int .i64 0)), .pv (.val (.int .i64 0)), .pv (.val (.int .i64 0)), .pv (.val (.bool false)), .pv (.val (.bool false)), .pv (.val (.bool false)), .pv (.val (.bool false)), .pv (.val (.bool false))], .c (.pv (.val (.int .i64 11)))]) []) (fun r0 r1 r2 r3 r4 r5 r6 r7 r8 r9 r10 => k (.tup [.agg [.pv (.val (.int .u64 r0)), .pv (.val (.int .u32 r1)), .pv (.val (.int .u64 r2)), .pv (.val (.int .i64 r3)), .pv (.val (.int .i64 r4)), .pv (.val (.int .i64 r5)), .pv (.val (.bool r6)), .pv (.val (.bool r7)), .pv (.val (.bool r8)), .pv (.val (.bool r9)), .pv (.val (.bool r10))], .c (.pv (.val (.int .i64 0)))]) []) := by kernel_rfl
def ref11_Parse_p : PAr := ⟨[.v (.agg [.pv (.int .u64 .h), .pv (.int .u64 .h), .pv (.bool .h), .pv (.int .i64 .h), .pv (.int .i64 .h), .pv (.int .i64 .h), .pv (.sl .h (.int .u8 .nil) 1 .h)])], []⟩
def ref11_Parse_F (h : List Hole) (k : FK) : Option Out := ref11_Parse (gI h 0) (gI h 1) (gB h 2) (gI h 3) (gI h 4) (gI h 5) (gB h 6) (gN h 7) (gF h 8) (k (.tup [.agg [.pv (.val (.int .u64 0)), .pv (.val (.int .u32 0)), .pv (.val (.int .u64 0)), .pv (.val (.int .i64 0)), .pv (.val (.int .i64 0)), .pv (.val (.int .i64 0)), .pv (.val (.bool false)), .pv (.val (.bool false)), .pv (.val (.bool false)), .pv (.val (.bool false)), .pv (.val (.bool false))], .c (.pv (.val (.int .i64 11)))]) []) (fun r0 r1 r2 r3 r4 r5 r6 r7 r8 r9 r10 => k (.tup [.agg [.pv (.val (.int .u64 r0)), .pv (.val (.int .u32 r1)), .pv (.val (.int .u64 r2)), .pv (.val (.int .i64 r3)), .pv (.val (.int .i64 r4)), .pv (.val (.int .i64 r5)), .pv (.val (.bool r6)), .pv (.val (.bool r7)), .pv (.val (.bool r8)), .pv (.val (.bool r9)), .pv (.val (.bool r10))], .c (.pv (.val (.int .i64 0)))]) [])
theorem ref11_Parse_at (h : List Hole) : CallAt Try.prog 20 (arFill ref11_Parse_p h).1 (arFill ref11_Parse_p h).2 (ref11_Parse_F h) := by
  have e : arFill ref11_Parse_p h = ([.v (.agg [.pv (.val (.int .u64 (gI h 0))), .pv (.val (.int .u64 (gI h 1))), .pv (.val (.bool (gB h 2))), .pv (.val (.int .i64 (gI h 3))), .pv (.val (.int .i64 (gI h 4))), .pv (.val (.int .i64 (gI h 5))), .pv (.sl (gB h 6) (.int .u8 .nil) 1 (gN h 7) ((gF h 8)))])], []) := by kernel_rfl
  rw [e]; exact callAt_of (runS_ok ttOk eqOk mixed (names_ok namesOk) (S := ref11_Parse_S ref10_Good ref11_Good) (sums_cons yes16_ok (sums_cons (smOf_ok (alts_cons ref10_Good_at alts_nil)) (sums_cons (smOf_ok (alts_cons ref11_Good_at alts_nil)) (sums_nil)))) (B := ref11_Parse_B ref10_Good ref11_Good) (hooks_nil) (has bor) 40) fun k => ref11_Parse_eq ref10_Good ref11_Good _ _ _ _ _ _ _ _ _ k
def e110 (x0 : Int) (x1 : Int) (x2 : Int) (x3 : Int) (x4 : Int) (x5 : Int) (x6 : Bool) (x7 : Bool) (x8 : Bool) (x9 : Bool) (x10 : Bool) : Bool := ((0 == x0) && ((0 == x1) && ((0 == x2) && ((0 == x3) && ((0 == x4) && ((0 == x5) && ((false == x6) && ((false == x7) && ((false == x8) && ((false == x9) && (false == x10)))))))))))
def e111 (x0 : Int) (x1 : Int) (x2 : Int) (x3 : Int) (x4 : Int) (x5 : Int) (x6 : Bool) (x7 : Bool) (x8 : Bool) (x9 : Bool) (x10 : Bool) : Bool := ((x0 == 0) && ((x1 == 0) && ((x2 == 0) && ((x3 == 0) && ((x4 == 0) && ((x5 == 0) && ((x6 == false) && ((x7 == false) && ((x8 == false) && ((x9 == false) && (x10 == false)))))))))))
def e112 (x0 : Int) (x1 : Int) (x2 : Int) (x3 : Int) (x4 : Int) (x5 : Int) (x6 : Int) (x7 : Int) (x8 : Int) (x9 : Int) (x10 : Int) (x11 : Int) (x12 : Bool) (x13 : Bool) (x14 : Bool) (x15 : Bool) (x16 : Bool) (x17 : Bool) (x18 : Bool) (x19 : Bool) (x20 : Bool) (x21 : Bool) : Bool := ((x0 == x1) && ((x2 == x3) && ((x4 == x5) && ((x6 == x7) && ((x8 == x9) && ((x10 == x11) && ((x12 == x13) && ((x14 == x15) && ((x16 == x17) && ((x18 == x19) && (x20 == x21)))))))))))
def e113 (x0 : Int) (x1 : Int) (x2 : Int) (x3 : Int) (x4 : Int) (x5 : Int) (x6 : Int) (x7 : Int) (x8 : Int) (x9 : Int) (x10 : Int) (x11 : Int) (x12 : Bool) (x13 : Bool) (x14 : Bool) (x15 : Bool) (x16 : Bool) (x17 : Bool) (x18 : Bool) (x19 : Bool) (x20 : Bool) (x21 : Bool) : Bool := e112 x0 x1 x2 x3 x4 x5 x6 x7 x8 x9 x10 x11 x12 x13 x14 x15 x16 x17 x18 x19 x20 x21
def e114 (x0 : Int) (x1 : Int) (x2 : Int) (x3 : Int) (x4 : Int) (x5 : Int) (x6 : Int) (x7 : Int) (x8 : Int) (x9 : Int) (x10 : Int) (x11 : Int) (x12 : Bool) (x13 : Bool) (x14 : Bool) (x15 : Bool) (x16 : Bool) (x17 : Bool) (x18 : Bool) (x19 : Bool) (x20 : Bool) (x21 : Bool) : Bool := e113 x0 x1 x2 x3 x4 x5 x6 x7 x8 x9 x10 x11 x12 x13 x14 x15 x16 x17 x18 x19 x20 x21
/- weirgate/weirgatekeep.Frames -/
def keep_Frames_T {α : Type}  (a_1 : Int) (a_2 : Int) (a_3 : Nat → Nat → PV) (a_4 : Nat → Nat → PV) (k0 : Bool → (Nat → Nat → PV) → (Nat → Nat → PV) → Option α) : Option α := bif (a_1 == a_2) then
  k0 ((strOf 39 (a_3)).toList == (strOf 39 (a_4)).toList) a_3 a_4
 else k0 false a_3 a_4
def keep_Frames {α : Type} (a_1 : Int) (a_2 : Int) (a_3 : Nat → Nat → PV) (a_4 : Nat → Nat → PV) (k0 : Bool → (Nat → Nat → PV) → (Nat → Nat → PV) → Option α) : Option α := keep_Frames_T  a_1 a_2 a_3 a_4 k0
def keep_Frames_S  : List (Nat × Sm) := [(16, yes)]
def keep_Frames_B  : Hooks := []
theorem keep_Frames_eq  (a_1 : Int) (a_2 : Int) (a_3 : Nat → Nat → PV) (a_4 : Nat → Nat → PV) (k : FK) : runS tt (has eql) Try.prog.funcs 1152921504606846976 (keep_Frames_S ) (keep_Frames_B ) (has bor) 40 23 [.v (.agg [.pv (.val (.int .u64 1652522221568)), .pv (.val (.int .u64 a_1)), .pv (.val (.bool false)), .pv (.val (.int .i64 0)), .pv (.val (.int .i64 0)), .pv (.val (.int .i64 39)), .own 0]), .v (.agg [.pv (.val (.int .u64 1652522221568)), .pv (.val (.int .u64 a_2)), .pv (.val (.bool false)), .pv (.val (.int .i64 0)), .pv (.val (.int .i64 0)), .pv (.val (.int .i64 39)), .own 1])] [.parr false (.int .u8 .nil) 1 39 (a_3), .parr false (.int .u8 .nil) 1 39 (a_4)] k = keep_Frames_T  a_1 a_2 a_3 a_4 (fun r0 r1 r2 => k (.v (.c (.pv (.val (.bool r0))))) [.parr false (.int .u8 .nil) 1 39 (r1), .parr false (.int .u8 .nil) 1 39 (r2)]) := by kernel_rfl
def keep_Frames_p : PAr := ⟨[.v (.agg [.pv (.int .u64 (.l 1652522221568)), .pv (.int .u64 .h), .pv (.bool (.l false)), .pv (.int .i64 (.l 0)), .pv (.int .i64 (.l 0)), .pv (.int .i64 (.l 39)), .own 0]), .v (.agg [.pv (.int .u64 (.l 1652522221568)), .pv (.int .u64 .h), .pv (.bool (.l false)), .pv (.int .i64 (.l 0)), .pv (.int .i64 (.l 0)), .pv (.int .i64 (.l 39)), .own 1])], [.parr (.l false) (.int .u8 .nil) 1 (.l 39), .parr (.l false) (.int .u8 .nil) 1 (.l 39)]⟩
def keep_Frames_F (h : List Hole) (k : FK) : Option Out := keep_Frames (gI h 0) (gI h 1) (gF h 2) (gF h 3) (fun r0 r1 r2 => k (.v (.c (.pv (.val (.bool r0))))) [.parr false (.int .u8 .nil) 1 39 (r1), .parr false (.int .u8 .nil) 1 39 (r2)])
theorem keep_Frames_at (h : List Hole) : CallAt Try.prog 23 (arFill keep_Frames_p h).1 (arFill keep_Frames_p h).2 (keep_Frames_F h) := by
  have e : arFill keep_Frames_p h = ([.v (.agg [.pv (.val (.int .u64 1652522221568)), .pv (.val (.int .u64 (gI h 0))), .pv (.val (.bool false)), .pv (.val (.int .i64 0)), .pv (.val (.int .i64 0)), .pv (.val (.int .i64 39)), .own 0]), .v (.agg [.pv (.val (.int .u64 1652522221568)), .pv (.val (.int .u64 (gI h 1))), .pv (.val (.bool false)), .pv (.val (.int .i64 0)), .pv (.val (.int .i64 0)), .pv (.val (.int .i64 39)), .own 1])], [.parr false (.int .u8 .nil) 1 39 ((gF h 2)), .parr false (.int .u8 .nil) 1 39 ((gF h 3))]) := by kernel_rfl
  rw [e]; exact callAt_of (runS_ok ttOk eqOk mixed (names_ok namesOk) (S := keep_Frames_S ) (sums_cons yes16_ok (sums_nil)) (B := keep_Frames_B ) (hooks_nil) (has bor) 40) fun k => keep_Frames_eq  _ _ _ _ k
/- weirgate/weirgatelaw11.BpduFrames -/
def law11_BpduFrames_T {α : Type} (Gbpdu_Frame : Int → Int → Int → Int → Int → Int → Int → Bool → Bool → Bool → Bool → Bool → (Option α) → (Int → (Nat → Nat → PV) → Option α) → Option α) (Gref11_Frame : Int → Int → Int → Int → Int → Int → Int → Bool → Bool → Bool → Bool → Bool → (Option α) → (Int → (Nat → Nat → PV) → Option α) → Option α) (Gbpdu_Parse : Int → Int → Bool → Int → Int → Int → Nat → (Nat → Nat → PV) → (Nat → (Nat → Nat → PV) → Option α) → (Int → Int → Int → Int → Int → Int → Bool → Bool → Bool → Bool → Bool → Nat → (Nat → Nat → PV) → Option α) → Option α) (Gref11_Parse : Int → Int → Bool → Int → Int → Int → Bool → Nat → (Nat → Nat → PV) → (Option α) → (Int → Int → Int → Int → Int → Int → Bool → Bool → Bool → Bool → Bool → Option α) → Option α) (Gbpdu_Good : Int → Int → Int → Int → Int → Int → Bool → Bool → Bool → Bool → Bool → (Bool → Option α) → Option α) (Gref11_Good : Int → Int → Int → Int → Int → Int → Bool → Bool → Bool → Bool → Bool → (Bool → Option α) → Option α) (Gkeep_Frames : Int → Int → (Nat → Nat → PV) → (Nat → Nat → PV) → (Bool → (Nat → Nat → PV) → (Nat → Nat → PV) → Option α) → Option α) (a_1 : Int) (a_2 : Int) (a_3 : Int) (a_4 : Int) (a_5 : Int) (a_6 : Int) (a_7 : Int) (a_8 : Bool) (a_9 : Bool) (a_10 : Bool) (a_11 : Bool) (a_12 : Bool) (a_13 : Int) (a_14 : Int) (a_15 : Bool) (a_16 : Int) (a_17 : Int) (a_18 : Int) (a_19 : Bool) (a_20 : Nat) (a_21 : Nat → Nat → PV) (k0 : Option α) (k1 : Option α) : Option α := bif decide ((a_20 : Int) > 2000) then
  k0
 else Gbpdu_Frame a_1 a_2 a_3 a_4 a_5 a_6 a_7 a_8 a_9 a_10 a_11 a_12
  (Gref11_Frame a_1 a_2 a_3 a_4 a_5 a_6 a_7 a_8 a_9 a_10 a_11 a_12
   (bif Nat.ble ((0 + a_20) * 1) bound then
    Gbpdu_Parse a_13 a_14 a_15 a_16 a_17 a_18 (0 + a_20) (catf 0 (rowOf 1 []) (a_21))
     (fun r_22 r_23 => Gref11_Parse a_13 a_14 a_15 a_16 a_17 a_18 a_19 a_20 a_21
      (Gbpdu_Good a_2 a_3 a_4 a_5 a_6 a_7 a_8 a_9 a_10 a_11 a_12
       (fun r_24 => Gref11_Good a_2 a_3 a_4 a_5 a_6 a_7 a_8 a_9 a_10 a_11 a_12
        (fun r_25 => bif (r_24 == r_25) then
         bif ((a_13 == 1652522221568) == (a_13 == 1652522221568)) then
          k0
         else k1
        else k1)))
      (fun r_24 r_25 r_26 r_27 r_28 r_29 r_30 r_31 r_32 r_33 r_34 => Gbpdu_Good a_2 a_3 a_4 a_5 a_6 a_7 a_8 a_9 a_10 a_11 a_12
       (fun r_35 => Gref11_Good a_2 a_3 a_4 a_5 a_6 a_7 a_8 a_9 a_10 a_11 a_12
        (fun r_36 => bif (r_35 == r_36) then
         bif e110 r_24 r_25 r_26 r_27 r_28 r_29 r_30 r_31 r_32 r_33 r_34 then
          k1
         else k1
        else k1))))
     (fun r_22 r_23 r_24 r_25 r_26 r_27 r_28 r_29 r_30 r_31 r_32 r_33 r_34 => Gref11_Parse a_13 a_14 a_15 a_16 a_17 a_18 a_19 a_20 a_21
      (Gbpdu_Good a_2 a_3 a_4 a_5 a_6 a_7 a_8 a_9 a_10 a_11 a_12
       (fun r_35 => Gref11_Good a_2 a_3 a_4 a_5 a_6 a_7 a_8 a_9 a_10 a_11 a_12
        (fun r_36 => bif (r_35 == r_36) then
         bif e111 r_22 r_23 r_24 r_25 r_26 r_27 r_28 r_29 r_30 r_31 r_32 then
          k1
         else k1
        else k1)))
      (fun r_35 r_36 r_37 r_38 r_39 r_40 r_41 r_42 r_43 r_44 r_45 => Gbpdu_Good a_2 a_3 a_4 a_5 a_6 a_7 a_8 a_9 a_10 a_11 a_12
       (fun r_46 => Gref11_Good a_2 a_3 a_4 a_5 a_6 a_7 a_8 a_9 a_10 a_11 a_12
        (fun r_47 => bif (r_46 == r_47) then
         bif e114 r_22 r_35 r_23 r_36 r_24 r_37 r_25 r_38 r_26 r_39 r_27 r_40 r_28 r_41 r_29 r_42 r_30 r_43 r_31 r_44 r_32 r_45 then
          bif ((a_13 == 1652522221568) == (a_13 == 1652522221568)) then
           k0
          else k1
         else k1
        else k1))))
   else none /- test -/)
   (fun r_22 r_23 => bif Nat.ble ((0 + a_20) * 1) bound then
    Gbpdu_Parse a_13 a_14 a_15 a_16 a_17 a_18 (0 + a_20) (catf 0 (rowOf 1 []) (a_21))
     (fun r_24 r_25 => Gref11_Parse a_13 a_14 a_15 a_16 a_17 a_18 a_19 a_20 a_21
      (Gbpdu_Good a_2 a_3 a_4 a_5 a_6 a_7 a_8 a_9 a_10 a_11 a_12
       (fun r_26 => Gref11_Good a_2 a_3 a_4 a_5 a_6 a_7 a_8 a_9 a_10 a_11 a_12
        (fun r_27 => bif (r_26 == r_27) then
         k1
        else k1)))
      (fun r_26 r_27 r_28 r_29 r_30 r_31 r_32 r_33 r_34 r_35 r_36 => Gbpdu_Good a_2 a_3 a_4 a_5 a_6 a_7 a_8 a_9 a_10 a_11 a_12
       (fun r_37 => Gref11_Good a_2 a_3 a_4 a_5 a_6 a_7 a_8 a_9 a_10 a_11 a_12
        (fun r_38 => bif (r_37 == r_38) then
         k1
        else k1))))
     (fun r_24 r_25 r_26 r_27 r_28 r_29 r_30 r_31 r_32 r_33 r_34 r_35 r_36 => Gref11_Parse a_13 a_14 a_15 a_16 a_17 a_18 a_19 a_20 a_21
      (Gbpdu_Good a_2 a_3 a_4 a_5 a_6 a_7 a_8 a_9 a_10 a_11 a_12
       (fun r_37 => Gref11_Good a_2 a_3 a_4 a_5 a_6 a_7 a_8 a_9 a_10 a_11 a_12
        (fun r_38 => bif (r_37 == r_38) then
         k1
        else k1)))
      (fun r_37 r_38 r_39 r_40 r_41 r_42 r_43 r_44 r_45 r_46 r_47 => Gbpdu_Good a_2 a_3 a_4 a_5 a_6 a_7 a_8 a_9 a_10 a_11 a_12
       (fun r_48 => Gref11_Good a_2 a_3 a_4 a_5 a_6 a_7 a_8 a_9 a_10 a_11 a_12
        (fun r_49 => bif (r_48 == r_49) then
         k1
        else k1))))
   else none /- test -/))
  (fun r_22 r_23 => Gref11_Frame a_1 a_2 a_3 a_4 a_5 a_6 a_7 a_8 a_9 a_10 a_11 a_12
   (bif Nat.ble ((0 + a_20) * 1) bound then
    Gbpdu_Parse a_13 a_14 a_15 a_16 a_17 a_18 (0 + a_20) (catf 0 (rowOf 1 []) (a_21))
     (fun r_24 r_25 => Gref11_Parse a_13 a_14 a_15 a_16 a_17 a_18 a_19 a_20 a_21
      (Gbpdu_Good a_2 a_3 a_4 a_5 a_6 a_7 a_8 a_9 a_10 a_11 a_12
       (fun r_26 => Gref11_Good a_2 a_3 a_4 a_5 a_6 a_7 a_8 a_9 a_10 a_11 a_12
        (fun r_27 => bif (r_26 == r_27) then
         k1
        else k1)))
      (fun r_26 r_27 r_28 r_29 r_30 r_31 r_32 r_33 r_34 r_35 r_36 => Gbpdu_Good a_2 a_3 a_4 a_5 a_6 a_7 a_8 a_9 a_10 a_11 a_12
       (fun r_37 => Gref11_Good a_2 a_3 a_4 a_5 a_6 a_7 a_8 a_9 a_10 a_11 a_12
        (fun r_38 => bif (r_37 == r_38) then
         k1
        else k1))))
     (fun r_24 r_25 r_26 r_27 r_28 r_29 r_30 r_31 r_32 r_33 r_34 r_35 r_36 => Gref11_Parse a_13 a_14 a_15 a_16 a_17 a_18 a_19 a_20 a_21
      (Gbpdu_Good a_2 a_3 a_4 a_5 a_6 a_7 a_8 a_9 a_10 a_11 a_12
       (fun r_37 => Gref11_Good a_2 a_3 a_4 a_5 a_6 a_7 a_8 a_9 a_10 a_11 a_12
        (fun r_38 => bif (r_37 == r_38) then
         k1
        else k1)))
      (fun r_37 r_38 r_39 r_40 r_41 r_42 r_43 r_44 r_45 r_46 r_47 => Gbpdu_Good a_2 a_3 a_4 a_5 a_6 a_7 a_8 a_9 a_10 a_11 a_12
       (fun r_48 => Gref11_Good a_2 a_3 a_4 a_5 a_6 a_7 a_8 a_9 a_10 a_11 a_12
        (fun r_49 => bif (r_48 == r_49) then
         k1
        else k1))))
   else none /- test -/)
   (fun r_24 r_25 => bif Nat.ble ((0 + a_20) * 1) bound then
    Gbpdu_Parse a_13 a_14 a_15 a_16 a_17 a_18 (0 + a_20) (catf 0 (rowOf 1 []) (a_21))
     (fun r_26 r_27 => Gref11_Parse a_13 a_14 a_15 a_16 a_17 a_18 a_19 a_20 a_21
      (Gbpdu_Good a_2 a_3 a_4 a_5 a_6 a_7 a_8 a_9 a_10 a_11 a_12
       (fun r_28 => Gref11_Good a_2 a_3 a_4 a_5 a_6 a_7 a_8 a_9 a_10 a_11 a_12
        (fun r_29 => bif (r_28 == r_29) then
         Gkeep_Frames r_22 r_24 r_23 r_25
          (fun r_30 r_31 r_32 => bif r_30 then
           bif ((a_13 == 1652522221568) == (a_13 == 1652522221568)) then
            k0
           else k1
          else k1)
        else k1)))
      (fun r_28 r_29 r_30 r_31 r_32 r_33 r_34 r_35 r_36 r_37 r_38 => Gbpdu_Good a_2 a_3 a_4 a_5 a_6 a_7 a_8 a_9 a_10 a_11 a_12
       (fun r_39 => Gref11_Good a_2 a_3 a_4 a_5 a_6 a_7 a_8 a_9 a_10 a_11 a_12
        (fun r_40 => bif (r_39 == r_40) then
         Gkeep_Frames r_22 r_24 r_23 r_25
          (fun r_41 r_42 r_43 => bif r_41 then
           bif e110 r_28 r_29 r_30 r_31 r_32 r_33 r_34 r_35 r_36 r_37 r_38 then
            k1
           else k1
          else k1)
        else k1))))
     (fun r_26 r_27 r_28 r_29 r_30 r_31 r_32 r_33 r_34 r_35 r_36 r_37 r_38 => Gref11_Parse a_13 a_14 a_15 a_16 a_17 a_18 a_19 a_20 a_21
      (Gbpdu_Good a_2 a_3 a_4 a_5 a_6 a_7 a_8 a_9 a_10 a_11 a_12
       (fun r_39 => Gref11_Good a_2 a_3 a_4 a_5 a_6 a_7 a_8 a_9 a_10 a_11 a_12
        (fun r_40 => bif (r_39 == r_40) then
         Gkeep_Frames r_22 r_24 r_23 r_25
          (fun r_41 r_42 r_43 => bif r_41 then
           bif e111 r_26 r_27 r_28 r_29 r_30 r_31 r_32 r_33 r_34 r_35 r_36 then
            k1
           else k1
          else k1)
        else k1)))
      (fun r_39 r_40 r_41 r_42 r_43 r_44 r_45 r_46 r_47 r_48 r_49 => Gbpdu_Good a_2 a_3 a_4 a_5 a_6 a_7 a_8 a_9 a_10 a_11 a_12
       (fun r_50 => Gref11_Good a_2 a_3 a_4 a_5 a_6 a_7 a_8 a_9 a_10 a_11 a_12
        (fun r_51 => bif (r_50 == r_51) then
         Gkeep_Frames r_22 r_24 r_23 r_25
          (fun r_52 r_53 r_54 => bif r_52 then
           bif e114 r_26 r_39 r_27 r_40 r_28 r_41 r_29 r_42 r_30 r_43 r_31 r_44 r_32 r_45 r_33 r_46 r_34 r_47 r_35 r_48 r_36 r_49 then
            bif ((a_13 == 1652522221568) == (a_13 == 1652522221568)) then
             k0
            else k1
           else k1
          else k1)
        else k1))))
   else none /- test -/))
def law11_BpduFrames {α : Type} (a_1 : Int) (a_2 : Int) (a_3 : Int) (a_4 : Int) (a_5 : Int) (a_6 : Int) (a_7 : Int) (a_8 : Bool) (a_9 : Bool) (a_10 : Bool) (a_11 : Bool) (a_12 : Bool) (a_13 : Int) (a_14 : Int) (a_15 : Bool) (a_16 : Int) (a_17 : Int) (a_18 : Int) (a_19 : Bool) (a_20 : Nat) (a_21 : Nat → Nat → PV) (k0 : Option α) (k1 : Option α) : Option α := law11_BpduFrames_T bpdu_Frame ref11_Frame bpdu_Parse ref11_Parse bpdu_Good ref11_Good keep_Frames a_1 a_2 a_3 a_4 a_5 a_6 a_7 a_8 a_9 a_10 a_11 a_12 a_13 a_14 a_15 a_16 a_17 a_18 a_19 a_20 a_21 k0 k1
def law11_BpduFrames_S (Gbpdu_Frame : Int → Int → Int → Int → Int → Int → Int → Bool → Bool → Bool → Bool → Bool → (Option Out) → (Int → (Nat → Nat → PV) → Option Out) → Option Out) (Gref11_Frame : Int → Int → Int → Int → Int → Int → Int → Bool → Bool → Bool → Bool → Bool → (Option Out) → (Int → (Nat → Nat → PV) → Option Out) → Option Out) (Gbpdu_Parse : Int → Int → Bool → Int → Int → Int → Nat → (Nat → Nat → PV) → (Nat → (Nat → Nat → PV) → Option Out) → (Int → Int → Int → Int → Int → Int → Bool → Bool → Bool → Bool → Bool → Nat → (Nat → Nat → PV) → Option Out) → Option Out) (Gref11_Parse : Int → Int → Bool → Int → Int → Int → Bool → Nat → (Nat → Nat → PV) → (Option Out) → (Int → Int → Int → Int → Int → Int → Bool → Bool → Bool → Bool → Bool → Option Out) → Option Out) (Gbpdu_Good : Int → Int → Int → Int → Int → Int → Bool → Bool → Bool → Bool → Bool → (Bool → Option Out) → Option Out) (Gref11_Good : Int → Int → Int → Int → Int → Int → Bool → Bool → Bool → Bool → Bool → (Bool → Option Out) → Option Out) (Gkeep_Frames : Int → Int → (Nat → Nat → PV) → (Nat → Nat → PV) → (Bool → (Nat → Nat → PV) → (Nat → Nat → PV) → Option Out) → Option Out) : List (Nat × Sm) := [(16, yes), (17, smOf [(bpdu_Frame_p, fun h k => Gbpdu_Frame (gI h 0) (gI h 1) (gI h 2) (gI h 3) (gI h 4) (gI h 5) (gI h 6) (gB h 7) (gB h 8) (gB h 9) (gB h 10) (gB h 11) (k (.tup [.agg [.pv (.val (.int .u64 0)), .pv (.val (.int .u64 0)), .pv (.val (.bool false)), .pv (.val (.int .i64 0)), .pv (.val (.int .i64 0)), .pv (.val (.int .i64 0)), .pv (.val (.slice none 0 0))], .c (.pv (.val (.int .i64 11)))]) []) (fun r0 r1 => k (.tup [.agg [.pv (.val (.int .u64 1652522221568)), .pv (.val (.int .u64 r0)), .pv (.val (.bool false)), .pv (.val (.int .i64 0)), .pv (.val (.int .i64 0)), .pv (.val (.int .i64 39)), .own 0], .c (.pv (.val (.int .i64 0)))]) [.parr false (.int .u8 .nil) 1 39 (r1)]))]), (18, smOf [(ref11_Frame_p, fun h k => Gref11_Frame (gI h 0) (gI h 1) (gI h 2) (gI h 3) (gI h 4) (gI h 5) (gI h 6) (gB h 7) (gB h 8) (gB h 9) (gB h 10) (gB h 11) (k (.tup [.agg [.pv (.val (.int .u64 0)), .pv (.val (.int .u64 0)), .pv (.val (.bool false)), .pv (.val (.int .i64 0)), .pv (.val (.int .i64 0)), .pv (.val (.int .i64 0)), .pv (.val (.slice none 0 0))], .c (.pv (.val (.int .i64 11)))]) []) (fun r0 r1 => k (.tup [.agg [.pv (.val (.int .u64 1652522221568)), .pv (.val (.int .u64 r0)), .pv (.val (.bool false)), .pv (.val (.int .i64 0)), .pv (.val (.int .i64 0)), .pv (.val (.int .i64 39)), .own 0], .c (.pv (.val (.int .i64 0)))]) [.parr false (.int .u8 .nil) 1 39 (r1)]))]), (19, smOf [(bpdu_Parse_p, fun h k => Gbpdu_Parse (gI h 0) (gI h 1) (gB h 2) (gI h 3) (gI h 4) (gI h 5) (gN h 6) (gF h 7) (fun r0 r1 => k (.tup [.agg [.pv (.val (.int .u64 0)), .pv (.val (.int .u32 0)), .pv (.val (.int .u64 0)), .pv (.val (.int .i64 0)), .pv (.val (.int .i64 0)), .pv (.val (.int .i64 0)), .pv (.val (.bool false)), .pv (.val (.bool false)), .pv (.val (.bool false)), .pv (.val (.bool false)), .pv (.val (.bool false))], .c (.pv (.val (.int .i64 11)))]) [.parr false (.int .u8 .nil) 1 r0 (r1)]) (fun r0 r1 r2 r3 r4 r5 r6 r7 r8 r9 r10 r11 r12 => k (.tup [.agg [.pv (.val (.int .u64 r0)), .pv (.val (.int .u32 r1)), .pv (.val (.int .u64 r2)), .pv (.val (.int .i64 r3)), .pv (.val (.int .i64 r4)), .pv (.val (.int .i64 r5)), .pv (.val (.bool r6)), .pv (.val (.bool r7)), .pv (.val (.bool r8)), .pv (.val (.bool r9)), .pv (.val (.bool r10))], .c (.pv (.val (.int .i64 0)))]) [.parr false (.int .u8 .nil) 1 r11 (r12)]))]), (20, smOf [(ref11_Parse_p, fun h k => Gref11_Parse (gI h 0) (gI h 1) (gB h 2) (gI h 3) (gI h 4) (gI h 5) (gB h 6) (gN h 7) (gF h 8) (k (.tup [.agg [.pv (.val (.int .u64 0)), .pv (.val (.int .u32 0)), .pv (.val (.int .u64 0)), .pv (.val (.int .i64 0)), .pv (.val (.int .i64 0)), .pv (.val (.int .i64 0)), .pv (.val (.bool false)), .pv (.val (.bool false)), .pv (.val (.bool false)), .pv (.val (.bool false)), .pv (.val (.bool false))], .c (.pv (.val (.int .i64 11)))]) []) (fun r0 r1 r2 r3 r4 r5 r6 r7 r8 r9 r10 => k (.tup [.agg [.pv (.val (.int .u64 r0)), .pv (.val (.int .u32 r1)), .pv (.val (.int .u64 r2)), .pv (.val (.int .i64 r3)), .pv (.val (.int .i64 r4)), .pv (.val (.int .i64 r5)), .pv (.val (.bool r6)), .pv (.val (.bool r7)), .pv (.val (.bool r8)), .pv (.val (.bool r9)), .pv (.val (.bool r10))], .c (.pv (.val (.int .i64 0)))]) []))]), (21, smOf [(bpdu_Good_p, fun h k => Gbpdu_Good (gI h 0) (gI h 1) (gI h 2) (gI h 3) (gI h 4) (gI h 5) (gB h 6) (gB h 7) (gB h 8) (gB h 9) (gB h 10) (fun r0 => k (.v (.c (.pv (.val (.bool r0))))) []))]), (22, smOf [(ref11_Good_p, fun h k => Gref11_Good (gI h 0) (gI h 1) (gI h 2) (gI h 3) (gI h 4) (gI h 5) (gB h 6) (gB h 7) (gB h 8) (gB h 9) (gB h 10) (fun r0 => k (.v (.c (.pv (.val (.bool r0))))) []))]), (23, smOf [(keep_Frames_p, fun h k => Gkeep_Frames (gI h 0) (gI h 1) (gF h 2) (gF h 3) (fun r0 r1 r2 => k (.v (.c (.pv (.val (.bool r0))))) [.parr false (.int .u8 .nil) 1 39 (r1), .parr false (.int .u8 .nil) 1 39 (r2)]))])]
def law11_BpduFrames_B (Gbpdu_Frame : Int → Int → Int → Int → Int → Int → Int → Bool → Bool → Bool → Bool → Bool → (Option Out) → (Int → (Nat → Nat → PV) → Option Out) → Option Out) (Gref11_Frame : Int → Int → Int → Int → Int → Int → Int → Bool → Bool → Bool → Bool → Bool → (Option Out) → (Int → (Nat → Nat → PV) → Option Out) → Option Out) (Gbpdu_Parse : Int → Int → Bool → Int → Int → Int → Nat → (Nat → Nat → PV) → (Nat → (Nat → Nat → PV) → Option Out) → (Int → Int → Int → Int → Int → Int → Bool → Bool → Bool → Bool → Bool → Nat → (Nat → Nat → PV) → Option Out) → Option Out) (Gref11_Parse : Int → Int → Bool → Int → Int → Int → Bool → Nat → (Nat → Nat → PV) → (Option Out) → (Int → Int → Int → Int → Int → Int → Bool → Bool → Bool → Bool → Bool → Option Out) → Option Out) (Gbpdu_Good : Int → Int → Int → Int → Int → Int → Bool → Bool → Bool → Bool → Bool → (Bool → Option Out) → Option Out) (Gref11_Good : Int → Int → Int → Int → Int → Int → Bool → Bool → Bool → Bool → Bool → (Bool → Option Out) → Option Out) (Gkeep_Frames : Int → Int → (Nat → Nat → PV) → (Nat → Nat → PV) → (Bool → (Nat → Nat → PV) → (Nat → Nat → PV) → Option Out) → Option Out) : Hooks := []
theorem law11_BpduFrames_eq (Gbpdu_Frame : Int → Int → Int → Int → Int → Int → Int → Bool → Bool → Bool → Bool → Bool → (Option Out) → (Int → (Nat → Nat → PV) → Option Out) → Option Out) (Gref11_Frame : Int → Int → Int → Int → Int → Int → Int → Bool → Bool → Bool → Bool → Bool → (Option Out) → (Int → (Nat → Nat → PV) → Option Out) → Option Out) (Gbpdu_Parse : Int → Int → Bool → Int → Int → Int → Nat → (Nat → Nat → PV) → (Nat → (Nat → Nat → PV) → Option Out) → (Int → Int → Int → Int → Int → Int → Bool → Bool → Bool → Bool → Bool → Nat → (Nat → Nat → PV) → Option Out) → Option Out) (Gref11_Parse : Int → Int → Bool → Int → Int → Int → Bool → Nat → (Nat → Nat → PV) → (Option Out) → (Int → Int → Int → Int → Int → Int → Bool → Bool → Bool → Bool → Bool → Option Out) → Option Out) (Gbpdu_Good : Int → Int → Int → Int → Int → Int → Bool → Bool → Bool → Bool → Bool → (Bool → Option Out) → Option Out) (Gref11_Good : Int → Int → Int → Int → Int → Int → Bool → Bool → Bool → Bool → Bool → (Bool → Option Out) → Option Out) (Gkeep_Frames : Int → Int → (Nat → Nat → PV) → (Nat → Nat → PV) → (Bool → (Nat → Nat → PV) → (Nat → Nat → PV) → Option Out) → Option Out) (a_1 : Int) (a_2 : Int) (a_3 : Int) (a_4 : Int) (a_5 : Int) (a_6 : Int) (a_7 : Int) (a_8 : Bool) (a_9 : Bool) (a_10 : Bool) (a_11 : Bool) (a_12 : Bool) (a_13 : Int) (a_14 : Int) (a_15 : Bool) (a_16 : Int) (a_17 : Int) (a_18 : Int) (a_19 : Bool) (a_20 : Nat) (a_21 : Nat → Nat → PV) (k : FK) : runS tt (has eql) Try.prog.funcs 1152921504606846976 (law11_BpduFrames_S Gbpdu_Frame Gref11_Frame Gbpdu_Parse Gref11_Parse Gbpdu_Good Gref11_Good Gkeep_Frames) (law11_BpduFrames_B Gbpdu_Frame Gref11_Frame Gbpdu_Parse Gref11_Parse Gbpdu_Good Gref11_Good Gkeep_Frames) (has bor) 40 3 [.v (.c (.pv (.val (.int .u64 a_1)))), .v (.agg [.pv (.val (.int .u64 a_2)), .pv (.val (.int .u32 a_3)), .pv (.val (.int .u64 a_4)), .pv (.val (.int .i64 a_5)), .pv (.val (.int .i64 a_6)), .pv (.val (.int .i64 a_7)), .pv (.val (.bool a_8)), .pv (.val (.bool a_9)), .pv (.val (.bool a_10)), .pv (.val (.bool a_11)), .pv (.val (.bool a_12))]), .v (.agg [.pv (.val (.int .u64 a_13)), .pv (.val (.int .u64 a_14)), .pv (.val (.bool a_15)), .pv (.val (.int .i64 a_16)), .pv (.val (.int .i64 a_17)), .pv (.val (.int .i64 a_18)), .pv (.sl a_19 (.int .u8 .nil) 1 a_20 (a_21))])] [] k = law11_BpduFrames_T Gbpdu_Frame Gref11_Frame Gbpdu_Parse Gref11_Parse Gbpdu_Good Gref11_Good Gkeep_Frames a_1 a_2 a_3 a_4 a_5 a_6 a_7 a_8 a_9 a_10 a_11 a_12 a_13 a_14 a_15 a_16 a_17 a_18 a_19 a_20 a_21 (k (.v (.c (.pv (.val (.bool true))))) []) (k (.v (.c (.pv (.val (.bool false))))) []) := by kernel_rfl
def law11_BpduFrames_p : PAr := ⟨[.v (.c (.pv (.int .u64 .h))), .v (.agg [.pv (.int .u64 .h), .pv (.int .u32 .h), .pv (.int .u64 .h), .pv (.int .i64 .h), .pv (.int .i64 .h), .pv (.int .i64 .h), .pv (.bool .h), .pv (.bool .h), .pv (.bool .h), .pv (.bool .h), .pv (.bool .h)]), .v (.agg [.pv (.int .u64 .h), .pv (.int .u64 .h), .pv (.bool .h), .pv (.int .i64 .h), .pv (.int .i64 .h), .pv (.int .i64 .h), .pv (.sl .h (.int .u8 .nil) 1 .h)])], []⟩
def law11_BpduFrames_F (h : List Hole) (k : FK) : Option Out := law11_BpduFrames (gI h 0) (gI h 1) (gI h 2) (gI h 3) (gI h 4) (gI h 5) (gI h 6) (gB h 7) (gB h 8) (gB h 9) (gB h 10) (gB h 11) (gI h 12) (gI h 13) (gB h 14) (gI h 15) (gI h 16) (gI h 17) (gB h 18) (gN h 19) (gF h 20) (k (.v (.c (.pv (.val (.bool true))))) []) (k (.v (.c (.pv (.val (.bool false))))) [])
theorem law11_BpduFrames_at (h : List Hole) : CallAt Try.prog 3 (arFill law11_BpduFrames_p h).1 (arFill law11_BpduFrames_p h).2 (law11_BpduFrames_F h) := by
  have e : arFill law11_BpduFrames_p h = ([.v (.c (.pv (.val (.int .u64 (gI h 0))))), .v (.agg [.pv (.val (.int .u64 (gI h 1))), .pv (.val (.int .u32 (gI h 2))), .pv (.val (.int .u64 (gI h 3))), .pv (.val (.int .i64 (gI h 4))), .pv (.val (.int .i64 (gI h 5))), .pv (.val (.int .i64 (gI h 6))), .pv (.val (.bool (gB h 7))), .pv (.val (.bool (gB h 8))), .pv (.val (.bool (gB h 9))), .pv (.val (.bool (gB h 10))), .pv (.val (.bool (gB h 11)))]), .v (.agg [.pv (.val (.int .u64 (gI h 12))), .pv (.val (.int .u64 (gI h 13))), .pv (.val (.bool (gB h 14))), .pv (.val (.int .i64 (gI h 15))), .pv (.val (.int .i64 (gI h 16))), .pv (.val (.int .i64 (gI h 17))), .pv (.sl (gB h 18) (.int .u8 .nil) 1 (gN h 19) ((gF h 20)))])], []) := by kernel_rfl
  rw [e]; exact callAt_of (runS_ok ttOk eqOk mixed (names_ok namesOk) (S := law11_BpduFrames_S bpdu_Frame ref11_Frame bpdu_Parse ref11_Parse bpdu_Good ref11_Good keep_Frames) (sums_cons yes16_ok (sums_cons (smOf_ok (alts_cons bpdu_Frame_at alts_nil)) (sums_cons (smOf_ok (alts_cons ref11_Frame_at alts_nil)) (sums_cons (smOf_ok (alts_cons bpdu_Parse_at alts_nil)) (sums_cons (smOf_ok (alts_cons ref11_Parse_at alts_nil)) (sums_cons (smOf_ok (alts_cons bpdu_Good_at alts_nil)) (sums_cons (smOf_ok (alts_cons ref11_Good_at alts_nil)) (sums_cons (smOf_ok (alts_cons keep_Frames_at alts_nil)) (sums_nil))))))))) (B := law11_BpduFrames_B bpdu_Frame ref11_Frame bpdu_Parse ref11_Parse bpdu_Good ref11_Good keep_Frames) (hooks_nil) (has bor) 40) fun k => law11_BpduFrames_eq bpdu_Frame ref11_Frame bpdu_Parse ref11_Parse bpdu_Good ref11_Good keep_Frames _ _ _ _ _ _ _ _ _ _ _ _ _ _ _ _ _ _ _ _ _ k
theorem call_ok : CallSem Try.prog (runS tt (has eql) Try.prog.funcs 1152921504606846976 (law11_BpduFrames_S bpdu_Frame ref11_Frame bpdu_Parse ref11_Parse bpdu_Good ref11_Good keep_Frames) (law11_BpduFrames_B bpdu_Frame ref11_Frame bpdu_Parse ref11_Parse bpdu_Good ref11_Good keep_Frames) (has bor) 40) := runS_ok ttOk eqOk mixed (names_ok namesOk) (S := law11_BpduFrames_S bpdu_Frame ref11_Frame bpdu_Parse ref11_Parse bpdu_Good ref11_Good keep_Frames) (sums_cons yes16_ok (sums_cons (smOf_ok (alts_cons bpdu_Frame_at alts_nil)) (sums_cons (smOf_ok (alts_cons ref11_Frame_at alts_nil)) (sums_cons (smOf_ok (alts_cons bpdu_Parse_at alts_nil)) (sums_cons (smOf_ok (alts_cons ref11_Parse_at alts_nil)) (sums_cons (smOf_ok (alts_cons bpdu_Good_at alts_nil)) (sums_cons (smOf_ok (alts_cons ref11_Good_at alts_nil)) (sums_cons (smOf_ok (alts_cons keep_Frames_at alts_nil)) (sums_nil))))))))) (B := law11_BpduFrames_B bpdu_Frame ref11_Frame bpdu_Parse ref11_Parse bpdu_Good ref11_Good keep_Frames) (hooks_nil) (has bor) 40
theorem law_eq (a_1 : Int) (a_2 : Int) (a_3 : Int) (a_4 : Int) (a_5 : Int) (a_6 : Int) (a_7 : Int) (a_8 : Bool) (a_9 : Bool) (a_10 : Bool) (a_11 : Bool) (a_12 : Bool) (a_13 : Int) (a_14 : Int) (a_15 : Bool) (a_16 : Int) (a_17 : Int) (a_18 : Int) (a_19 : Bool) (a_20 : Nat) (a_21 : Nat → Nat → PV) (k : FK) : runS tt (has eql) Try.prog.funcs 1152921504606846976 (law11_BpduFrames_S bpdu_Frame ref11_Frame bpdu_Parse ref11_Parse bpdu_Good ref11_Good keep_Frames) (law11_BpduFrames_B bpdu_Frame ref11_Frame bpdu_Parse ref11_Parse bpdu_Good ref11_Good keep_Frames) (has bor) 40 3 [.v (.c (.pv (.val (.int .u64 a_1)))), .v (.agg [.pv (.val (.int .u64 a_2)), .pv (.val (.int .u32 a_3)), .pv (.val (.int .u64 a_4)), .pv (.val (.int .i64 a_5)), .pv (.val (.int .i64 a_6)), .pv (.val (.int .i64 a_7)), .pv (.val (.bool a_8)), .pv (.val (.bool a_9)), .pv (.val (.bool a_10)), .pv (.val (.bool a_11)), .pv (.val (.bool a_12))]), .v (.agg [.pv (.val (.int .u64 a_13)), .pv (.val (.int .u64 a_14)), .pv (.val (.bool a_15)), .pv (.val (.int .i64 a_16)), .pv (.val (.int .i64 a_17)), .pv (.val (.int .i64 a_18)), .pv (.sl a_19 (.int .u8 .nil) 1 a_20 (a_21))])] [] k = law11_BpduFrames a_1 a_2 a_3 a_4 a_5 a_6 a_7 a_8 a_9 a_10 a_11 a_12 a_13 a_14 a_15 a_16 a_17 a_18 a_19 a_20 a_21 (k (.v (.c (.pv (.val (.bool true))))) []) (k (.v (.c (.pv (.val (.bool false))))) []) := law11_BpduFrames_eq bpdu_Frame ref11_Frame bpdu_Parse ref11_Parse bpdu_Good ref11_Good keep_Frames a_1 a_2 a_3 a_4 a_5 a_6 a_7 a_8 a_9 a_10 a_11 a_12 a_13 a_14 a_15 a_16 a_17 a_18 a_19 a_20 a_21 k
end Go.Proofs.Ytampnnhdgnhjaaa.BpduFrames

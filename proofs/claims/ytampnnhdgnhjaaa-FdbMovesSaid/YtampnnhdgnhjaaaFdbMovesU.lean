/- FdbMoves: the code of the law and of all that it calls, told by functions over numbers and rows. WRITTEN BY gen.py. -/
import Derived.Test.YtampnnhdgnhjaaaHand
set_option linter.unusedVariables false
namespace Go.Proofs.Ytampnnhdgnhjaaa.FdbMoves
open Go.Ve
set_option maxRecDepth 100000
theorem wakes_eq38 (k : AV → List AObj → Option Out) : runS tt (has eql) Try.prog.funcs 100000 [(85, (insSm 4 32)), (44, statSm)] [] opts 40 38 [] [] k = k (.b true) [] := by kernel_rfl
theorem yes38_ok : SumOk Try.prog 38 yes := SumOk.yes (runS_ok ttOk eqOk mixed (names_ok namesOk) (S := [(85, (insSm 4 32)), (44, statSm)]) (sums_cons insert_ok (sums_cons stat_ok (sums_nil))) hooks_nil opts 40) wakes_eq38
/- weirgate/mac.Group -/
def mac_Group_T {α : Type}  (a_1 : Int) (k0 : Bool → Option α) : Option α := bif ((shrI .u64 a_1 48) == 0) then
  k0 ((bits .and .u64 (shrI .u64 a_1 40) 1) == 1)
 else k0 false
def mac_Group {α : Type} (a_1 : Int) (k0 : Bool → Option α) : Option α := mac_Group_T  a_1 k0
def mac_Group_S  : List (Nat × Sm) := [(38, yes), (85, (insSm 4 32)), (44, statSm)]
def mac_Group_B  : Hooks := []
theorem mac_Group_eq  (a_1 : Int) (k : FK) : runS tt (has eql) Try.prog.funcs 18446744073709551616 (mac_Group_S ) (mac_Group_B ) opts 40 56 [.v (.c (.pv (.val (.int .u64 a_1))))] [] k = mac_Group_T  a_1 (fun r0 => k (.v (.c (.pv (.val (.bool r0))))) []) := by kernel_rfl
def mac_Group_p : PAr := ⟨[.v (.c (.pv (.int .u64 .h)))], []⟩
def mac_Group_F (h : List Hole) (k : FK) : Option Out := mac_Group (gI h 0) (fun r0 => k (.v (.c (.pv (.val (.bool r0))))) [])
theorem mac_Group_at (h : List Hole) : CallAt Try.prog 56 (arFill mac_Group_p h).1 (arFill mac_Group_p h).2 (mac_Group_F h) := by
  have e : arFill mac_Group_p h = ([.v (.c (.pv (.val (.int .u64 (gI h 0)))))], []) := by kernel_rfl
  rw [e]; exact callAt_of (runS_ok ttOk eqOk mixed (names_ok namesOk) (S := mac_Group_S ) (sums_cons yes38_ok (sums_cons insert_ok (sums_cons stat_ok (sums_nil)))) (B := mac_Group_B ) (hooks_nil) opts 40) fun k => mac_Group_eq  _ k
def e1 (x0 : Nat → Nat → PV) (x1 : Int) : Int := numOf (x0 ((IntKind.i64.wrap (shrI .u64 (IntKind.u64.wrap (IntKind.i64.wrap (0 + x1))) 1)).toNat) 0)
def e2 (x0 : Nat → Nat → PV) (x1 : Int) : Int := numOf (x0 ((IntKind.i64.wrap (shrI .u64 (IntKind.u64.wrap (IntKind.i64.wrap (0 + x1))) 1)).toNat) 1)
def e3 (x0 : Nat → Nat → PV) (x1 : Int) : Int := numOf (x0 ((IntKind.i64.wrap (shrI .u64 (IntKind.u64.wrap (IntKind.i64.wrap (0 + x1))) 1)).toNat) 2)
def e4 (x0 : Nat → Nat → PV) (x1 : Int) : Int := numOf (x0 ((IntKind.i64.wrap (shrI .u64 (IntKind.u64.wrap (IntKind.i64.wrap (0 + x1))) 1)).toNat) 3)
/- cmp.Compare[int] -/
def cmp_Compare_int_T {α : Type}  (a_1 : Int) (a_2 : Int) (k0 : Int → Option α) : Option α := bif (a_1 != a_1) then
  bif (a_2 != a_2) then
   k0 0
  else k0 (-1)
 else bif (a_2 != a_2) then
  k0 1
 else bif decide (a_1 < a_2) then
  k0 (-1)
 else bif decide (a_1 > a_2) then
  k0 1
 else k0 0
def cmp_Compare_int {α : Type} (a_1 : Int) (a_2 : Int) (k0 : Int → Option α) : Option α := cmp_Compare_int_T  a_1 a_2 k0
def cmp_Compare_int_S  : List (Nat × Sm) := [(38, yes), (85, (insSm 4 32)), (44, statSm)]
def cmp_Compare_int_B  : Hooks := []
theorem cmp_Compare_int_eq  (a_1 : Int) (a_2 : Int) (k : FK) : runS tt (has eql) Try.prog.funcs 18446744073709551616 (cmp_Compare_int_S ) (cmp_Compare_int_B ) opts 40 81 [.v (.c (.pv (.val (.int .i64 a_1)))), .v (.c (.pv (.val (.int .i64 a_2))))] [] k = cmp_Compare_int_T  a_1 a_2 (fun r0 => k (.v (.c (.pv (.val (.int .i64 r0))))) []) := by kernel_rfl
def cmp_Compare_int_p : PAr := ⟨[.v (.c (.pv (.int .i64 .h))), .v (.c (.pv (.int .i64 .h)))], []⟩
def cmp_Compare_int_F (h : List Hole) (k : FK) : Option Out := cmp_Compare_int (gI h 0) (gI h 1) (fun r0 => k (.v (.c (.pv (.val (.int .i64 r0))))) [])
theorem cmp_Compare_int_at (h : List Hole) : CallAt Try.prog 81 (arFill cmp_Compare_int_p h).1 (arFill cmp_Compare_int_p h).2 (cmp_Compare_int_F h) := by
  have e : arFill cmp_Compare_int_p h = ([.v (.c (.pv (.val (.int .i64 (gI h 0))))), .v (.c (.pv (.val (.int .i64 (gI h 1)))))], []) := by kernel_rfl
  rw [e]; exact callAt_of (runS_ok ttOk eqOk mixed (names_ok namesOk) (S := cmp_Compare_int_S ) (sums_cons yes38_ok (sums_cons insert_ok (sums_cons stat_ok (sums_nil)))) (B := cmp_Compare_int_B ) (hooks_nil) opts 40) fun k => cmp_Compare_int_eq  _ _ k
/- cmp.Compare[uint64] -/
def cmp_Compare_uint64_T {α : Type}  (a_1 : Int) (a_2 : Int) (k0 : Int → Option α) : Option α := bif (a_1 != a_1) then
  bif (a_2 != a_2) then
   k0 0
  else k0 (-1)
 else bif (a_2 != a_2) then
  k0 1
 else bif decide (a_1 < a_2) then
  k0 (-1)
 else bif decide (a_1 > a_2) then
  k0 1
 else k0 0
def cmp_Compare_uint64 {α : Type} (a_1 : Int) (a_2 : Int) (k0 : Int → Option α) : Option α := cmp_Compare_uint64_T  a_1 a_2 k0
def cmp_Compare_uint64_S  : List (Nat × Sm) := [(38, yes), (85, (insSm 4 32)), (44, statSm)]
def cmp_Compare_uint64_B  : Hooks := []
theorem cmp_Compare_uint64_eq  (a_1 : Int) (a_2 : Int) (k : FK) : runS tt (has eql) Try.prog.funcs 18446744073709551616 (cmp_Compare_uint64_S ) (cmp_Compare_uint64_B ) opts 40 101 [.v (.c (.pv (.val (.int .u64 a_1)))), .v (.c (.pv (.val (.int .u64 a_2))))] [] k = cmp_Compare_uint64_T  a_1 a_2 (fun r0 => k (.v (.c (.pv (.val (.int .i64 r0))))) []) := by kernel_rfl
def cmp_Compare_uint64_p : PAr := ⟨[.v (.c (.pv (.int .u64 .h))), .v (.c (.pv (.int .u64 .h)))], []⟩
def cmp_Compare_uint64_F (h : List Hole) (k : FK) : Option Out := cmp_Compare_uint64 (gI h 0) (gI h 1) (fun r0 => k (.v (.c (.pv (.val (.int .i64 r0))))) [])
theorem cmp_Compare_uint64_at (h : List Hole) : CallAt Try.prog 101 (arFill cmp_Compare_uint64_p h).1 (arFill cmp_Compare_uint64_p h).2 (cmp_Compare_uint64_F h) := by
  have e : arFill cmp_Compare_uint64_p h = ([.v (.c (.pv (.val (.int .u64 (gI h 0))))), .v (.c (.pv (.val (.int .u64 (gI h 1)))))], []) := by kernel_rfl
  rw [e]; exact callAt_of (runS_ok ttOk eqOk mixed (names_ok namesOk) (S := cmp_Compare_uint64_S ) (sums_cons yes38_ok (sums_cons insert_ok (sums_cons stat_ok (sums_nil)))) (B := cmp_Compare_uint64_B ) (hooks_nil) opts 40) fun k => cmp_Compare_uint64_eq  _ _ k
/- cmp.Or[int]: loop 0 -/
def cmp_Or_int_L0_S  : List (Nat × Sm) := [(38, yes), (85, (insSm 4 32)), (44, statSm)]
def cmp_Or_int_L0_B  : Hooks := []
noncomputable def cmp_Or_int_L0_C  : Ctx := { tt := tt, eqs := has eql, call := runS tt (has eql) Try.prog.funcs 18446744073709551616 (cmp_Or_int_L0_S ) (cmp_Or_int_L0_B ) opts 40, fuel := 18446744073709551616, blk := fun i => aget [] i, bor := opts.bor }
def cmp_Or_int_L0_lo : Vx → List Nat := fun | .normal => [3] | .exit j => (fun _ => []) j | .ret => [2]
def cmp_Or_int_L0_h0 (a_1 : Int) (a_2 : Int) (a_3 : Bool) (a_4 : Nat) (a_5 : Nat → Nat → PV) : St := { n := 18, m := 1, t := [(3, .v (.c (.pv (.val (.int .i64 0))))), (6, .v (.c (.own 0))), (7, .v (.c (.pv (.val (.int .i64 a_1))))), (8, .v (.c (.pv (.val (.int .i64 a_2)))))], h := [(0, .parr false a_3 (.int .i64 .nil) 1 a_4 (a_5))], nx := 1 }
def cmp_Or_int_L0_x0 (r0 : Int) (r1 : Bool) (r2 : Nat) (r3 : Nat → Nat → PV) : St := { n := 18, m := 1, t := [(2, .v (.c (.pv (.val (.int .i64 r0)))))], h := [(0, .parr false r1 (.int .i64 .nil) 1 r2 (r3))], nx := 1 }
def cmp_Or_int_L0_x1 (r0 : Bool) (r1 : Nat) (r2 : Nat → Nat → PV) : St := { n := 18, m := 1, t := [(3, .v (.c (.pv (.val (.int .i64 0)))))], h := [(0, .parr false r0 (.int .i64 .nil) 1 r1 (r2))], nx := 1 }
def cmp_Or_int_L0_s0 {α : Type}  (rec0 : Int → Int → Bool → Nat → (Nat → Nat → PV) → Option α) (k0 : Int → Bool → Nat → (Nat → Nat → PV) → Option α) (k1 : Bool → Nat → (Nat → Nat → PV) → Option α) (a_1 : Int) (a_2 : Int) (a_3 : Bool) (a_4 : Nat) (a_5 : Nat → Nat → PV) : Option α := bif decide (a_2 < a_1) then
  bif inb a_2 a_4 then
   bif ((numOf (a_5 a_2.toNat 0)) != 0) then
    k0 (numOf (a_5 a_2.toNat 0)) a_3 a_4 a_5
   else rec0 a_1 (IntKind.i64.wrap (a_2 + 1)) a_3 a_4 a_5
  else none /- test -/
 else k1 a_3 a_4 a_5
def cmp_Or_int_L0_l0 {α : Type} (k0 : Int → Bool → Nat → (Nat → Nat → PV) → Option α) (k1 : Bool → Nat → (Nat → Nat → PV) → Option α) : Nat → Int → Int → Bool → Nat → (Nat → Nat → PV) → Option α
  | 0 => fun _ _ _ _ _ => none
  | n + 1 => cmp_Or_int_L0_s0  (cmp_Or_int_L0_l0 k0 k1 n) k0 k1
theorem cmp_Or_int_L0_s0_eq  (k : Kont) (n : Nat) (a_1 : Int) (a_2 : Int) (a_3 : Bool) (a_4 : Nat) (a_5 : Nat → Nat → PV) : loopN (fun st k => exec (cmp_Or_int_L0_C ) (loopBody (codeAt Try.f80 0)) st k) [3, 6, 7, 8] (loopK 0 (kn cmp_Or_int_L0_lo k)) (n + 1) (cmp_Or_int_L0_h0 a_1 a_2 a_3 a_4 a_5) = cmp_Or_int_L0_s0  (fun a_1 a_2 a_3 a_4 a_5 => loopN (fun st k => exec (cmp_Or_int_L0_C ) (loopBody (codeAt Try.f80 0)) st k) [3, 6, 7, 8] (loopK 0 (kn cmp_Or_int_L0_lo k)) n (cmp_Or_int_L0_h0 a_1 a_2 a_3 a_4 a_5)) (fun r0 r1 r2 r3 => k .ret (cmp_Or_int_L0_x0 r0 r1 r2 r3)) (fun r0 r1 r2 => k .normal (cmp_Or_int_L0_x1 r0 r1 r2)) a_1 a_2 a_3 a_4 a_5 := by kernel_rfl
theorem cmp_Or_int_L0_l0_eq (k : Kont) : ∀ (n : Nat) (a_1 : Int) (a_2 : Int) (a_3 : Bool) (a_4 : Nat) (a_5 : Nat → Nat → PV), loopN (fun st k => exec (cmp_Or_int_L0_C ) (loopBody (codeAt Try.f80 0)) st k) [3, 6, 7, 8] (loopK 0 (kn cmp_Or_int_L0_lo k)) n (cmp_Or_int_L0_h0 a_1 a_2 a_3 a_4 a_5) = cmp_Or_int_L0_l0 (fun r0 r1 r2 r3 => k .ret (cmp_Or_int_L0_x0 r0 r1 r2 r3)) (fun r0 r1 r2 => k .normal (cmp_Or_int_L0_x1 r0 r1 r2)) n a_1 a_2 a_3 a_4 a_5
  | 0, _, _, _, _, _ => rfl
  | n + 1, a_1, a_2, a_3, a_4, a_5 => by
    have r0 : (fun a_1 a_2 a_3 a_4 a_5 => loopN (fun st k => exec (cmp_Or_int_L0_C ) (loopBody (codeAt Try.f80 0)) st k) [3, 6, 7, 8] (loopK 0 (kn cmp_Or_int_L0_lo k)) n (cmp_Or_int_L0_h0 a_1 a_2 a_3 a_4 a_5)) = cmp_Or_int_L0_l0 (fun r0 r1 r2 r3 => k .ret (cmp_Or_int_L0_x0 r0 r1 r2 r3)) (fun r0 r1 r2 => k .normal (cmp_Or_int_L0_x1 r0 r1 r2)) n := funext fun a_1 => funext fun a_2 => funext fun a_3 => funext fun a_4 => funext fun a_5 => cmp_Or_int_L0_l0_eq k n a_1 a_2 a_3 a_4 a_5
    exact (cmp_Or_int_L0_s0_eq  k n a_1 a_2 a_3 a_4 a_5).trans (by rw [r0]; rfl)
def cmp_Or_int_L0 {α : Type} (a_1 : Int) (a_2 : Bool) (a_3 : Nat) (a_4 : Nat → Nat → PV) (k0 : Int → Bool → Nat → (Nat → Nat → PV) → Option α) (k1 : Bool → Nat → (Nat → Nat → PV) → Option α) : Option α := cmp_Or_int_L0_l0 k0 k1 18446744073709551616 a_1 0 a_2 a_3 a_4
def cmp_Or_int_L0_e (a_1 : Int) (a_2 : Bool) (a_3 : Nat) (a_4 : Nat → Nat → PV) : St := { n := 18, m := 1, t := [(3, .v (.c (.pv (.val (.int .i64 0))))), (6, .v (.c (.own 0))), (7, .v (.c (.pv (.val (.int .i64 a_1))))), (8, .v (.c (.pv (.val (.int .i64 0)))))], h := [(0, .parr false a_2 (.int .i64 .nil) 1 a_3 (a_4))], nx := 1 }
theorem cmp_Or_int_L0_eq (a_1 : Int) (a_2 : Bool) (a_3 : Nat) (a_4 : Nat → Nat → PV) (k : Kont) : exec (cmp_Or_int_L0_C ) (codeAt Try.f80 0) (cmp_Or_int_L0_e a_1 a_2 a_3 a_4) (kn cmp_Or_int_L0_lo k) = cmp_Or_int_L0 a_1 a_2 a_3 a_4 (fun r0 r1 r2 r3 => k .ret (cmp_Or_int_L0_x0 r0 r1 r2 r3)) (fun r0 r1 r2 => k .normal (cmp_Or_int_L0_x1 r0 r1 r2)) :=
  (by kernel_rfl : _ = loopN (fun st k => exec (cmp_Or_int_L0_C ) (loopBody (codeAt Try.f80 0)) st k) [3, 6, 7, 8] (loopK 0 (kn cmp_Or_int_L0_lo k)) 18446744073709551616 (cmp_Or_int_L0_h0 a_1 0 a_2 a_3 a_4)).trans (cmp_Or_int_L0_l0_eq k 18446744073709551616 a_1 0 a_2 a_3 a_4)
def cmp_Or_int_L0_p : PSt := { n := 18, m := 1, t := [(3, .v (.c (.pv (.int .i64 (.l 0))))), (6, .v (.c (.own 0))), (7, .v (.c (.pv (.int .i64 .h)))), (8, .v (.c (.pv (.int .i64 (.l 0)))))], h := [(0, .parr (.l false) .h (.int .i64 .nil) 1 .h)], nx := 1 }
def cmp_Or_int_L0_F (h : List Hole) (k : Kont) : Option Out := cmp_Or_int_L0 (gI h 0) (gB h 1) (gN h 2) (gF h 3) (fun r0 r1 r2 r3 => k .ret (cmp_Or_int_L0_x0 r0 r1 r2 r3)) (fun r0 r1 r2 => k .normal (cmp_Or_int_L0_x1 r0 r1 r2))
theorem cmp_Or_int_L0_at (h : List Hole) : BodyAt Try.prog (codeAt Try.f80 0) (stFill cmp_Or_int_L0_p h) (cmp_Or_int_L0_F h) := by
  have e : stFill cmp_Or_int_L0_p h = cmp_Or_int_L0_e (gI h 0) (gB h 1) (gN h 2) (gF h 3) := by kernel_rfl
  rw [e]; exact bodyAt_of (C := cmp_Or_int_L0_C ) ⟨ttOk, eqOk, runS_ok ttOk eqOk mixed (names_ok namesOk) (S := cmp_Or_int_L0_S ) (sums_cons yes38_ok (sums_cons insert_ok (sums_cons stat_ok (sums_nil)))) (B := cmp_Or_int_L0_B ) (hooks_nil) opts 40⟩ mixed (hooked_in (by kernel_rfl) blk_nil 0) fun k => cmp_Or_int_L0_eq _ _ _ _ k
/- cmp.Or[int] -/
def cmp_Or_int_T {α : Type} (Gcmp_Or_int_L0 : Int → Bool → Nat → (Nat → Nat → PV) → (Int → Bool → Nat → (Nat → Nat → PV) → Option α) → (Bool → Nat → (Nat → Nat → PV) → Option α) → Option α) (a_1 : Bool) (a_2 : Nat) (a_3 : Nat → Nat → PV) (k0 : Int → Bool → Nat → (Nat → Nat → PV) → Option α) : Option α := Gcmp_Or_int_L0 (a_2 : Int) a_1 a_2 a_3
  (fun r_4 r_5 r_6 r_7 => k0 r_4 r_5 r_6 r_7)
  (fun r_4 r_5 r_6 => k0 0 r_4 r_5 r_6)
def cmp_Or_int {α : Type} (a_1 : Bool) (a_2 : Nat) (a_3 : Nat → Nat → PV) (k0 : Int → Bool → Nat → (Nat → Nat → PV) → Option α) : Option α := cmp_Or_int_T cmp_Or_int_L0 a_1 a_2 a_3 k0
def cmp_Or_int_S (Gcmp_Or_int_L0 : Int → Bool → Nat → (Nat → Nat → PV) → (Int → Bool → Nat → (Nat → Nat → PV) → Option Out) → (Bool → Nat → (Nat → Nat → PV) → Option Out) → Option Out) : List (Nat × Sm) := [(38, yes), (85, (insSm 4 32)), (44, statSm)]
def cmp_Or_int_B (Gcmp_Or_int_L0 : Int → Bool → Nat → (Nat → Nat → PV) → (Int → Bool → Nat → (Nat → Nat → PV) → Option Out) → (Bool → Nat → (Nat → Nat → PV) → Option Out) → Option Out) : Hooks := [(80, [(0, hookG [3, 6, 7, 8] [] (bkOf [(cmp_Or_int_L0_p, fun h k => Gcmp_Or_int_L0 (gI h 0) (gB h 1) (gN h 2) (gF h 3) (fun r0 r1 r2 r3 => k .ret (cmp_Or_int_L0_x0 r0 r1 r2 r3)) (fun r0 r1 r2 => k .normal (cmp_Or_int_L0_x1 r0 r1 r2)))]))])]
theorem cmp_Or_int_eq (Gcmp_Or_int_L0 : Int → Bool → Nat → (Nat → Nat → PV) → (Int → Bool → Nat → (Nat → Nat → PV) → Option Out) → (Bool → Nat → (Nat → Nat → PV) → Option Out) → Option Out) (a_1 : Bool) (a_2 : Nat) (a_3 : Nat → Nat → PV) (k : FK) : runS tt (has eql) Try.prog.funcs 18446744073709551616 (cmp_Or_int_S Gcmp_Or_int_L0) (cmp_Or_int_B Gcmp_Or_int_L0) opts 40 80 [.v (.c (.own 0))] [.parr false a_1 (.int .i64 .nil) 1 a_2 (a_3)] k = cmp_Or_int_T Gcmp_Or_int_L0 a_1 a_2 a_3 (fun r0 r1 r2 r3 => k (.v (.c (.pv (.val (.int .i64 r0))))) [.parr false r1 (.int .i64 .nil) 1 r2 (r3)]) := by kernel_rfl
def cmp_Or_int_p : PAr := ⟨[.v (.c (.own 0))], [.parr (.l false) .h (.int .i64 .nil) 1 .h]⟩
def cmp_Or_int_F (h : List Hole) (k : FK) : Option Out := cmp_Or_int (gB h 0) (gN h 1) (gF h 2) (fun r0 r1 r2 r3 => k (.v (.c (.pv (.val (.int .i64 r0))))) [.parr false r1 (.int .i64 .nil) 1 r2 (r3)])
theorem cmp_Or_int_at (h : List Hole) : CallAt Try.prog 80 (arFill cmp_Or_int_p h).1 (arFill cmp_Or_int_p h).2 (cmp_Or_int_F h) := by
  have e : arFill cmp_Or_int_p h = ([.v (.c (.own 0))], [.parr false (gB h 0) (.int .i64 .nil) 1 (gN h 1) ((gF h 2))]) := by kernel_rfl
  rw [e]; exact callAt_of (runS_ok ttOk eqOk mixed (names_ok namesOk) (S := cmp_Or_int_S cmp_Or_int_L0) (sums_cons yes38_ok (sums_cons insert_ok (sums_cons stat_ok (sums_nil)))) (B := cmp_Or_int_B cmp_Or_int_L0) (hooks_add (fn := Try.f80) (by kernel_rfl) (by kernel_rfl) (blk_cons (bkOf_ok (blts_cons cmp_Or_int_L0_at blts_nil)) blk_nil) (hooks_nil)) opts 40) fun k => cmp_Or_int_eq cmp_Or_int_L0 _ _ _ k
def e5 (x0 : Int) : Int := IntKind.i64.wrap ((IntKind.i64.wrap (shrI .u64 (IntKind.u64.wrap (IntKind.i64.wrap (0 + x0))) 1)) + 1)
def e6 (x0 : Nat → Nat → PV) (x1 : Int) (x2 : Int) : Int := numOf (x0 ((IntKind.i64.wrap (shrI .u64 (IntKind.u64.wrap (IntKind.i64.wrap (x1 + x2))) 1)).toNat) 0)
def e7 (x0 : Nat → Nat → PV) (x1 : Int) (x2 : Int) : Int := numOf (x0 ((IntKind.i64.wrap (shrI .u64 (IntKind.u64.wrap (IntKind.i64.wrap (x1 + x2))) 1)).toNat) 1)
def e8 (x0 : Nat → Nat → PV) (x1 : Int) (x2 : Int) : Int := numOf (x0 ((IntKind.i64.wrap (shrI .u64 (IntKind.u64.wrap (IntKind.i64.wrap (x1 + x2))) 1)).toNat) 2)
def e9 (x0 : Nat → Nat → PV) (x1 : Int) (x2 : Int) : Int := numOf (x0 ((IntKind.i64.wrap (shrI .u64 (IntKind.u64.wrap (IntKind.i64.wrap (x1 + x2))) 1)).toNat) 3)
def e10 (x0 : Int) (x1 : Int) : Int := IntKind.i64.wrap ((IntKind.i64.wrap (shrI .u64 (IntKind.u64.wrap (IntKind.i64.wrap (x0 + x1))) 1)) + 1)
/- slices.BinarySearchFunc[[]weirgate/fdb.Entry,weirgate/fdb.Entry,weirgate/fdb.key]: loop 0 -/
def slices_BinarySearchFunc_fdb_key_c99_L0_S (Gcmp_Compare_int : Int → Int → (Int → Option Out) → Option Out) (Gcmp_Compare_uint64 : Int → Int → (Int → Option Out) → Option Out) (Gcmp_Or_int : Bool → Nat → (Nat → Nat → PV) → (Int → Bool → Nat → (Nat → Nat → PV) → Option Out) → Option Out) : List (Nat × Sm) := [(38, yes), (85, (insSm 4 32)), (44, statSm), (81, smOf [(cmp_Compare_int_p, fun h k => Gcmp_Compare_int (gI h 0) (gI h 1) (fun r0 => k (.v (.c (.pv (.val (.int .i64 r0))))) []))]), (101, smOf [(cmp_Compare_uint64_p, fun h k => Gcmp_Compare_uint64 (gI h 0) (gI h 1) (fun r0 => k (.v (.c (.pv (.val (.int .i64 r0))))) []))]), (80, smOf [(cmp_Or_int_p, fun h k => Gcmp_Or_int (gB h 0) (gN h 1) (gF h 2) (fun r0 r1 r2 r3 => k (.v (.c (.pv (.val (.int .i64 r0))))) [.parr false r1 (.int .i64 .nil) 1 r2 (r3)]))])]
def slices_BinarySearchFunc_fdb_key_c99_L0_B (Gcmp_Compare_int : Int → Int → (Int → Option Out) → Option Out) (Gcmp_Compare_uint64 : Int → Int → (Int → Option Out) → Option Out) (Gcmp_Or_int : Bool → Nat → (Nat → Nat → PV) → (Int → Bool → Nat → (Nat → Nat → PV) → Option Out) → Option Out) : Hooks := []
noncomputable def slices_BinarySearchFunc_fdb_key_c99_L0_C (Gcmp_Compare_int : Int → Int → (Int → Option Out) → Option Out) (Gcmp_Compare_uint64 : Int → Int → (Int → Option Out) → Option Out) (Gcmp_Or_int : Bool → Nat → (Nat → Nat → PV) → (Int → Bool → Nat → (Nat → Nat → PV) → Option Out) → Option Out) : Ctx := { tt := tt, eqs := has eql, call := runS tt (has eql) Try.prog.funcs 18446744073709551616 (slices_BinarySearchFunc_fdb_key_c99_L0_S Gcmp_Compare_int Gcmp_Compare_uint64 Gcmp_Or_int) (slices_BinarySearchFunc_fdb_key_c99_L0_B Gcmp_Compare_int Gcmp_Compare_uint64 Gcmp_Or_int) opts 40, fuel := 18446744073709551616, blk := fun i => aget [] i, bor := opts.bor }
def slices_BinarySearchFunc_fdb_key_c99_L0_lo : Vx → List Nat := fun | .normal => [0, 2, 4, 8, 9] | .exit j => (fun _ => []) j | .ret => [6, 7]
def slices_BinarySearchFunc_fdb_key_c99_L0_h0 (a_1 : Int) (a_2 : Int) (a_3 : Int) (a_4 : Bool) (a_5 : Nat) (a_6 : Nat → Nat → PV) (a_7 : Int) (a_8 : Int) : St := { n := 49, m := 1, t := [(0, .v (.c (.own 0))), (2, .v (.c (.clo 99 []))), (4, .v (.c (.ptr 1 0))), (8, .v (.c (.pv (.val (.int .i64 a_1))))), (9, .v (.c (.pv (.val (.int .i64 a_2))))), (10, .v (.c (.pv (.val (.int .i64 a_3)))))], h := [(0, .parr false a_4 (.int .u64 (.int .i64 (.int .i64 (.int .i64 .nil)))) 4 a_5 (a_6)), (1, .cells false [.pv (.val (.int .i64 a_7)), .pv (.val (.int .u64 a_8))])], nx := 2 }
def slices_BinarySearchFunc_fdb_key_c99_L0_x0 (r0 : Int) (r1 : Int) (r2 : Bool) (r3 : Nat) (r4 : Nat → Nat → PV) (r5 : Int) (r6 : Int) : St := { n := 49, m := 1, t := [(0, .v (.c (.own 0))), (2, .v (.c (.clo 99 []))), (4, .v (.c (.ptr 1 0))), (8, .v (.c (.pv (.val (.int .i64 r0))))), (9, .v (.c (.pv (.val (.int .i64 r1)))))], h := [(0, .parr false r2 (.int .u64 (.int .i64 (.int .i64 (.int .i64 .nil)))) 4 r3 (r4)), (1, .cells false [.pv (.val (.int .i64 r5)), .pv (.val (.int .u64 r6))])], nx := 2 }
def slices_BinarySearchFunc_fdb_key_c99_L0_s0 {α : Type} (Gcmp_Compare_int : Int → Int → (Int → Option α) → Option α) (Gcmp_Compare_uint64 : Int → Int → (Int → Option α) → Option α) (Gcmp_Or_int : Bool → Nat → (Nat → Nat → PV) → (Int → Bool → Nat → (Nat → Nat → PV) → Option α) → Option α) (rec0 : Int → Int → Int → Bool → Nat → (Nat → Nat → PV) → Int → Int → Option α) (k0 : Int → Int → Bool → Nat → (Nat → Nat → PV) → Int → Int → Option α) (a_1 : Int) (a_2 : Int) (a_3 : Int) (a_4 : Bool) (a_5 : Nat) (a_6 : Nat → Nat → PV) (a_7 : Int) (a_8 : Int) : Option α := bif decide (a_2 < a_3) then
  bif inb (IntKind.i64.wrap (shrI .u64 (IntKind.u64.wrap (IntKind.i64.wrap (a_2 + a_3))) 1)) a_5 then
   Gcmp_Compare_int (e7 a_6 a_2 a_3) a_7
    (fun r_9 => Gcmp_Compare_uint64 (e6 a_6 a_2 a_3) a_8
     (fun r_10 => Gcmp_Or_int false 2 (rowOf 1 [.val (.int .i64 r_9), .val (.int .i64 r_10)])
      (fun r_11 r_12 r_13 r_14 => bif decide (r_11 < 0) then
       rec0 a_1 (e10 a_2 a_3) a_3 a_4 a_5 a_6 a_7 a_8
      else rec0 a_1 a_2 (IntKind.i64.wrap (shrI .u64 (IntKind.u64.wrap (IntKind.i64.wrap (a_2 + a_3))) 1)) a_4 a_5 a_6 a_7 a_8)))
  else none /- test -/
 else k0 a_1 a_2 a_4 a_5 a_6 a_7 a_8
def slices_BinarySearchFunc_fdb_key_c99_L0_l0 {α : Type} (k0 : Int → Int → Bool → Nat → (Nat → Nat → PV) → Int → Int → Option α) : Nat → Int → Int → Int → Bool → Nat → (Nat → Nat → PV) → Int → Int → Option α
  | 0 => fun _ _ _ _ _ _ _ _ => none
  | n + 1 => slices_BinarySearchFunc_fdb_key_c99_L0_s0 cmp_Compare_int cmp_Compare_uint64 cmp_Or_int (slices_BinarySearchFunc_fdb_key_c99_L0_l0 k0 n) k0
theorem slices_BinarySearchFunc_fdb_key_c99_L0_s0_eq (Gcmp_Compare_int : Int → Int → (Int → Option Out) → Option Out) (Gcmp_Compare_uint64 : Int → Int → (Int → Option Out) → Option Out) (Gcmp_Or_int : Bool → Nat → (Nat → Nat → PV) → (Int → Bool → Nat → (Nat → Nat → PV) → Option Out) → Option Out) (k : Kont) (n : Nat) (a_1 : Int) (a_2 : Int) (a_3 : Int) (a_4 : Bool) (a_5 : Nat) (a_6 : Nat → Nat → PV) (a_7 : Int) (a_8 : Int) : loopN (fun st k => exec (slices_BinarySearchFunc_fdb_key_c99_L0_C Gcmp_Compare_int Gcmp_Compare_uint64 Gcmp_Or_int) (loopBody (codeAt Try.f98 0)) st k) [0, 2, 4, 8, 9, 10] (loopK 0 (kn slices_BinarySearchFunc_fdb_key_c99_L0_lo k)) (n + 1) (slices_BinarySearchFunc_fdb_key_c99_L0_h0 a_1 a_2 a_3 a_4 a_5 a_6 a_7 a_8) = slices_BinarySearchFunc_fdb_key_c99_L0_s0 Gcmp_Compare_int Gcmp_Compare_uint64 Gcmp_Or_int (fun a_1 a_2 a_3 a_4 a_5 a_6 a_7 a_8 => loopN (fun st k => exec (slices_BinarySearchFunc_fdb_key_c99_L0_C Gcmp_Compare_int Gcmp_Compare_uint64 Gcmp_Or_int) (loopBody (codeAt Try.f98 0)) st k) [0, 2, 4, 8, 9, 10] (loopK 0 (kn slices_BinarySearchFunc_fdb_key_c99_L0_lo k)) n (slices_BinarySearchFunc_fdb_key_c99_L0_h0 a_1 a_2 a_3 a_4 a_5 a_6 a_7 a_8)) (fun r0 r1 r2 r3 r4 r5 r6 => k .normal (slices_BinarySearchFunc_fdb_key_c99_L0_x0 r0 r1 r2 r3 r4 r5 r6)) a_1 a_2 a_3 a_4 a_5 a_6 a_7 a_8 := by kernel_rfl
theorem slices_BinarySearchFunc_fdb_key_c99_L0_l0_eq (k : Kont) : ∀ (n : Nat) (a_1 : Int) (a_2 : Int) (a_3 : Int) (a_4 : Bool) (a_5 : Nat) (a_6 : Nat → Nat → PV) (a_7 : Int) (a_8 : Int), loopN (fun st k => exec (slices_BinarySearchFunc_fdb_key_c99_L0_C cmp_Compare_int cmp_Compare_uint64 cmp_Or_int) (loopBody (codeAt Try.f98 0)) st k) [0, 2, 4, 8, 9, 10] (loopK 0 (kn slices_BinarySearchFunc_fdb_key_c99_L0_lo k)) n (slices_BinarySearchFunc_fdb_key_c99_L0_h0 a_1 a_2 a_3 a_4 a_5 a_6 a_7 a_8) = slices_BinarySearchFunc_fdb_key_c99_L0_l0 (fun r0 r1 r2 r3 r4 r5 r6 => k .normal (slices_BinarySearchFunc_fdb_key_c99_L0_x0 r0 r1 r2 r3 r4 r5 r6)) n a_1 a_2 a_3 a_4 a_5 a_6 a_7 a_8
  | 0, _, _, _, _, _, _, _, _ => rfl
  | n + 1, a_1, a_2, a_3, a_4, a_5, a_6, a_7, a_8 => by
    have r0 : (fun a_1 a_2 a_3 a_4 a_5 a_6 a_7 a_8 => loopN (fun st k => exec (slices_BinarySearchFunc_fdb_key_c99_L0_C cmp_Compare_int cmp_Compare_uint64 cmp_Or_int) (loopBody (codeAt Try.f98 0)) st k) [0, 2, 4, 8, 9, 10] (loopK 0 (kn slices_BinarySearchFunc_fdb_key_c99_L0_lo k)) n (slices_BinarySearchFunc_fdb_key_c99_L0_h0 a_1 a_2 a_3 a_4 a_5 a_6 a_7 a_8)) = slices_BinarySearchFunc_fdb_key_c99_L0_l0 (fun r0 r1 r2 r3 r4 r5 r6 => k .normal (slices_BinarySearchFunc_fdb_key_c99_L0_x0 r0 r1 r2 r3 r4 r5 r6)) n := funext fun a_1 => funext fun a_2 => funext fun a_3 => funext fun a_4 => funext fun a_5 => funext fun a_6 => funext fun a_7 => funext fun a_8 => slices_BinarySearchFunc_fdb_key_c99_L0_l0_eq k n a_1 a_2 a_3 a_4 a_5 a_6 a_7 a_8
    exact (slices_BinarySearchFunc_fdb_key_c99_L0_s0_eq cmp_Compare_int cmp_Compare_uint64 cmp_Or_int k n a_1 a_2 a_3 a_4 a_5 a_6 a_7 a_8).trans (by rw [r0]; rfl)
def slices_BinarySearchFunc_fdb_key_c99_L0 {α : Type} (a_1 : Int) (a_2 : Int) (a_3 : Bool) (a_4 : Nat) (a_5 : Nat → Nat → PV) (a_6 : Int) (a_7 : Int) (k0 : Int → Int → Bool → Nat → (Nat → Nat → PV) → Int → Int → Option α) : Option α := slices_BinarySearchFunc_fdb_key_c99_L0_l0 k0 18446744073709551616 a_1 0 a_2 a_3 a_4 a_5 a_6 a_7
def slices_BinarySearchFunc_fdb_key_c99_L0_e (a_1 : Int) (a_2 : Int) (a_3 : Bool) (a_4 : Nat) (a_5 : Nat → Nat → PV) (a_6 : Int) (a_7 : Int) : St := { n := 49, m := 1, t := [(0, .v (.c (.own 0))), (2, .v (.c (.clo 99 []))), (4, .v (.c (.ptr 1 0))), (8, .v (.c (.pv (.val (.int .i64 a_1))))), (9, .v (.c (.pv (.val (.int .i64 0))))), (10, .v (.c (.pv (.val (.int .i64 a_2)))))], h := [(0, .parr false a_3 (.int .u64 (.int .i64 (.int .i64 (.int .i64 .nil)))) 4 a_4 (a_5)), (1, .cells false [.pv (.val (.int .i64 a_6)), .pv (.val (.int .u64 a_7))])], nx := 2 }
theorem slices_BinarySearchFunc_fdb_key_c99_L0_eq (a_1 : Int) (a_2 : Int) (a_3 : Bool) (a_4 : Nat) (a_5 : Nat → Nat → PV) (a_6 : Int) (a_7 : Int) (k : Kont) : exec (slices_BinarySearchFunc_fdb_key_c99_L0_C cmp_Compare_int cmp_Compare_uint64 cmp_Or_int) (codeAt Try.f98 0) (slices_BinarySearchFunc_fdb_key_c99_L0_e a_1 a_2 a_3 a_4 a_5 a_6 a_7) (kn slices_BinarySearchFunc_fdb_key_c99_L0_lo k) = slices_BinarySearchFunc_fdb_key_c99_L0 a_1 a_2 a_3 a_4 a_5 a_6 a_7 (fun r0 r1 r2 r3 r4 r5 r6 => k .normal (slices_BinarySearchFunc_fdb_key_c99_L0_x0 r0 r1 r2 r3 r4 r5 r6)) :=
  (by kernel_rfl : _ = loopN (fun st k => exec (slices_BinarySearchFunc_fdb_key_c99_L0_C cmp_Compare_int cmp_Compare_uint64 cmp_Or_int) (loopBody (codeAt Try.f98 0)) st k) [0, 2, 4, 8, 9, 10] (loopK 0 (kn slices_BinarySearchFunc_fdb_key_c99_L0_lo k)) 18446744073709551616 (slices_BinarySearchFunc_fdb_key_c99_L0_h0 a_1 0 a_2 a_3 a_4 a_5 a_6 a_7)).trans (slices_BinarySearchFunc_fdb_key_c99_L0_l0_eq k 18446744073709551616 a_1 0 a_2 a_3 a_4 a_5 a_6 a_7)
def slices_BinarySearchFunc_fdb_key_c99_L0_p : PSt := { n := 49, m := 1, t := [(0, .v (.c (.own 0))), (2, .v (.c (.clo 99 []))), (4, .v (.c (.ptr 1 0))), (8, .v (.c (.pv (.int .i64 .h)))), (9, .v (.c (.pv (.int .i64 (.l 0))))), (10, .v (.c (.pv (.int .i64 .h))))], h := [(0, .parr (.l false) .h (.int .u64 (.int .i64 (.int .i64 (.int .i64 .nil)))) 4 .h), (1, .cells (.l false) [.pv (.int .i64 .h), .pv (.int .u64 .h)])], nx := 2 }
def slices_BinarySearchFunc_fdb_key_c99_L0_F (h : List Hole) (k : Kont) : Option Out := slices_BinarySearchFunc_fdb_key_c99_L0 (gI h 0) (gI h 1) (gB h 2) (gN h 3) (gF h 4) (gI h 5) (gI h 6) (fun r0 r1 r2 r3 r4 r5 r6 => k .normal (slices_BinarySearchFunc_fdb_key_c99_L0_x0 r0 r1 r2 r3 r4 r5 r6))
theorem slices_BinarySearchFunc_fdb_key_c99_L0_at (h : List Hole) : BodyAt Try.prog (codeAt Try.f98 0) (stFill slices_BinarySearchFunc_fdb_key_c99_L0_p h) (slices_BinarySearchFunc_fdb_key_c99_L0_F h) := by
  have e : stFill slices_BinarySearchFunc_fdb_key_c99_L0_p h = slices_BinarySearchFunc_fdb_key_c99_L0_e (gI h 0) (gI h 1) (gB h 2) (gN h 3) (gF h 4) (gI h 5) (gI h 6) := by kernel_rfl
  rw [e]; exact bodyAt_of (C := slices_BinarySearchFunc_fdb_key_c99_L0_C cmp_Compare_int cmp_Compare_uint64 cmp_Or_int) ⟨ttOk, eqOk, runS_ok ttOk eqOk mixed (names_ok namesOk) (S := slices_BinarySearchFunc_fdb_key_c99_L0_S cmp_Compare_int cmp_Compare_uint64 cmp_Or_int) (sums_cons yes38_ok (sums_cons insert_ok (sums_cons stat_ok (sums_cons (smOf_ok (alts_cons cmp_Compare_int_at alts_nil)) (sums_cons (smOf_ok (alts_cons cmp_Compare_uint64_at alts_nil)) (sums_cons (smOf_ok (alts_cons cmp_Or_int_at alts_nil)) (sums_nil))))))) (B := slices_BinarySearchFunc_fdb_key_c99_L0_B cmp_Compare_int cmp_Compare_uint64 cmp_Or_int) (hooks_nil) opts 40⟩ mixed (hooked_in (by kernel_rfl) blk_nil 0) fun k => slices_BinarySearchFunc_fdb_key_c99_L0_eq _ _ _ _ _ _ _ k
/- slices.BinarySearchFunc[[]weirgate/fdb.Entry,weirgate/fdb.Entry,weirgate/fdb.key] -/
def slices_BinarySearchFunc_fdb_key_c99_T {α : Type} (Gslices_BinarySearchFunc_fdb_key_c99_L0 : Int → Int → Bool → Nat → (Nat → Nat → PV) → Int → Int → (Int → Int → Bool → Nat → (Nat → Nat → PV) → Int → Int → Option α) → Option α) (Gcmp_Compare_int : Int → Int → (Int → Option α) → Option α) (Gcmp_Compare_uint64 : Int → Int → (Int → Option α) → Option α) (Gcmp_Or_int : Bool → Nat → (Nat → Nat → PV) → (Int → Bool → Nat → (Nat → Nat → PV) → Option α) → Option α) (a_1 : Int) (a_2 : Int) (a_3 : Bool) (a_4 : Nat) (a_5 : Nat → Nat → PV) (k0 : Int → Bool → Bool → Nat → (Nat → Nat → PV) → Option α) (k1 : Int → Bool → Nat → (Nat → Nat → PV) → Option α) : Option α := Gslices_BinarySearchFunc_fdb_key_c99_L0 (a_4 : Int) (a_4 : Int) a_3 a_4 a_5 a_1 a_2
  (fun r_6 r_7 r_8 r_9 r_10 r_11 r_12 => bif decide (r_7 < r_6) then
   bif inb r_7 r_9 then
    Gcmp_Compare_int (numOf (r_10 r_7.toNat 1)) r_11
     (fun r_13 => Gcmp_Compare_uint64 (numOf (r_10 r_7.toNat 0)) r_12
      (fun r_14 => Gcmp_Or_int false 2 (rowOf 1 [.val (.int .i64 r_13), .val (.int .i64 r_14)])
       (fun r_15 r_16 r_17 r_18 => k0 r_7 (r_15 == 0) r_8 r_9 r_10)))
   else none /- test -/
  else k1 r_7 r_8 r_9 r_10)
def slices_BinarySearchFunc_fdb_key_c99 {α : Type} (a_1 : Int) (a_2 : Int) (a_3 : Bool) (a_4 : Nat) (a_5 : Nat → Nat → PV) (k0 : Int → Bool → Bool → Nat → (Nat → Nat → PV) → Option α) (k1 : Int → Bool → Nat → (Nat → Nat → PV) → Option α) : Option α := slices_BinarySearchFunc_fdb_key_c99_T slices_BinarySearchFunc_fdb_key_c99_L0 cmp_Compare_int cmp_Compare_uint64 cmp_Or_int a_1 a_2 a_3 a_4 a_5 k0 k1
def slices_BinarySearchFunc_fdb_key_c99_S (Gslices_BinarySearchFunc_fdb_key_c99_L0 : Int → Int → Bool → Nat → (Nat → Nat → PV) → Int → Int → (Int → Int → Bool → Nat → (Nat → Nat → PV) → Int → Int → Option Out) → Option Out) (Gcmp_Compare_int : Int → Int → (Int → Option Out) → Option Out) (Gcmp_Compare_uint64 : Int → Int → (Int → Option Out) → Option Out) (Gcmp_Or_int : Bool → Nat → (Nat → Nat → PV) → (Int → Bool → Nat → (Nat → Nat → PV) → Option Out) → Option Out) : List (Nat × Sm) := [(38, yes), (85, (insSm 4 32)), (44, statSm), (81, smOf [(cmp_Compare_int_p, fun h k => Gcmp_Compare_int (gI h 0) (gI h 1) (fun r0 => k (.v (.c (.pv (.val (.int .i64 r0))))) []))]), (101, smOf [(cmp_Compare_uint64_p, fun h k => Gcmp_Compare_uint64 (gI h 0) (gI h 1) (fun r0 => k (.v (.c (.pv (.val (.int .i64 r0))))) []))]), (80, smOf [(cmp_Or_int_p, fun h k => Gcmp_Or_int (gB h 0) (gN h 1) (gF h 2) (fun r0 r1 r2 r3 => k (.v (.c (.pv (.val (.int .i64 r0))))) [.parr false r1 (.int .i64 .nil) 1 r2 (r3)]))])]
def slices_BinarySearchFunc_fdb_key_c99_B (Gslices_BinarySearchFunc_fdb_key_c99_L0 : Int → Int → Bool → Nat → (Nat → Nat → PV) → Int → Int → (Int → Int → Bool → Nat → (Nat → Nat → PV) → Int → Int → Option Out) → Option Out) (Gcmp_Compare_int : Int → Int → (Int → Option Out) → Option Out) (Gcmp_Compare_uint64 : Int → Int → (Int → Option Out) → Option Out) (Gcmp_Or_int : Bool → Nat → (Nat → Nat → PV) → (Int → Bool → Nat → (Nat → Nat → PV) → Option Out) → Option Out) : Hooks := [(98, [(0, hookG [0, 2, 4, 8, 9, 10] [] (bkOf [(slices_BinarySearchFunc_fdb_key_c99_L0_p, fun h k => Gslices_BinarySearchFunc_fdb_key_c99_L0 (gI h 0) (gI h 1) (gB h 2) (gN h 3) (gF h 4) (gI h 5) (gI h 6) (fun r0 r1 r2 r3 r4 r5 r6 => k .normal (slices_BinarySearchFunc_fdb_key_c99_L0_x0 r0 r1 r2 r3 r4 r5 r6)))]))])]
theorem slices_BinarySearchFunc_fdb_key_c99_eq (Gslices_BinarySearchFunc_fdb_key_c99_L0 : Int → Int → Bool → Nat → (Nat → Nat → PV) → Int → Int → (Int → Int → Bool → Nat → (Nat → Nat → PV) → Int → Int → Option Out) → Option Out) (Gcmp_Compare_int : Int → Int → (Int → Option Out) → Option Out) (Gcmp_Compare_uint64 : Int → Int → (Int → Option Out) → Option Out) (Gcmp_Or_int : Bool → Nat → (Nat → Nat → PV) → (Int → Bool → Nat → (Nat → Nat → PV) → Option Out) → Option Out) (a_1 : Int) (a_2 : Int) (a_3 : Bool) (a_4 : Nat) (a_5 : Nat → Nat → PV) (k : FK) : runS tt (has eql) Try.prog.funcs 18446744073709551616 (slices_BinarySearchFunc_fdb_key_c99_S Gslices_BinarySearchFunc_fdb_key_c99_L0 Gcmp_Compare_int Gcmp_Compare_uint64 Gcmp_Or_int) (slices_BinarySearchFunc_fdb_key_c99_B Gslices_BinarySearchFunc_fdb_key_c99_L0 Gcmp_Compare_int Gcmp_Compare_uint64 Gcmp_Or_int) opts 40 98 [.v (.c (.own 0)), .v (.agg [.pv (.val (.int .i64 a_1)), .pv (.val (.int .u64 a_2))]), .v (.c (.clo 99 []))] [.parr false a_3 (.int .u64 (.int .i64 (.int .i64 (.int .i64 .nil)))) 4 a_4 (a_5)] k = slices_BinarySearchFunc_fdb_key_c99_T Gslices_BinarySearchFunc_fdb_key_c99_L0 Gcmp_Compare_int Gcmp_Compare_uint64 Gcmp_Or_int a_1 a_2 a_3 a_4 a_5 (fun r0 r1 r2 r3 r4 => k (.tup [.c (.pv (.val (.int .i64 r0))), .c (.pv (.val (.bool r1)))]) [.parr false r2 (.int .u64 (.int .i64 (.int .i64 (.int .i64 .nil)))) 4 r3 (r4)]) (fun r0 r1 r2 r3 => k (.tup [.c (.pv (.val (.int .i64 r0))), .c (.pv (.val (.bool false)))]) [.parr false r1 (.int .u64 (.int .i64 (.int .i64 (.int .i64 .nil)))) 4 r2 (r3)]) := by kernel_rfl
def slices_BinarySearchFunc_fdb_key_c99_p : PAr := ⟨[.v (.c (.own 0)), .v (.agg [.pv (.int .i64 .h), .pv (.int .u64 .h)]), .v (.c (.clo 99 []))], [.parr (.l false) .h (.int .u64 (.int .i64 (.int .i64 (.int .i64 .nil)))) 4 .h]⟩
def slices_BinarySearchFunc_fdb_key_c99_F (h : List Hole) (k : FK) : Option Out := slices_BinarySearchFunc_fdb_key_c99 (gI h 0) (gI h 1) (gB h 2) (gN h 3) (gF h 4) (fun r0 r1 r2 r3 r4 => k (.tup [.c (.pv (.val (.int .i64 r0))), .c (.pv (.val (.bool r1)))]) [.parr false r2 (.int .u64 (.int .i64 (.int .i64 (.int .i64 .nil)))) 4 r3 (r4)]) (fun r0 r1 r2 r3 => k (.tup [.c (.pv (.val (.int .i64 r0))), .c (.pv (.val (.bool false)))]) [.parr false r1 (.int .u64 (.int .i64 (.int .i64 (.int .i64 .nil)))) 4 r2 (r3)])
theorem slices_BinarySearchFunc_fdb_key_c99_at (h : List Hole) : CallAt Try.prog 98 (arFill slices_BinarySearchFunc_fdb_key_c99_p h).1 (arFill slices_BinarySearchFunc_fdb_key_c99_p h).2 (slices_BinarySearchFunc_fdb_key_c99_F h) := by
  have e : arFill slices_BinarySearchFunc_fdb_key_c99_p h = ([.v (.c (.own 0)), .v (.agg [.pv (.val (.int .i64 (gI h 0))), .pv (.val (.int .u64 (gI h 1)))]), .v (.c (.clo 99 []))], [.parr false (gB h 2) (.int .u64 (.int .i64 (.int .i64 (.int .i64 .nil)))) 4 (gN h 3) ((gF h 4))]) := by kernel_rfl
  rw [e]; exact callAt_of (runS_ok ttOk eqOk mixed (names_ok namesOk) (S := slices_BinarySearchFunc_fdb_key_c99_S slices_BinarySearchFunc_fdb_key_c99_L0 cmp_Compare_int cmp_Compare_uint64 cmp_Or_int) (sums_cons yes38_ok (sums_cons insert_ok (sums_cons stat_ok (sums_cons (smOf_ok (alts_cons cmp_Compare_int_at alts_nil)) (sums_cons (smOf_ok (alts_cons cmp_Compare_uint64_at alts_nil)) (sums_cons (smOf_ok (alts_cons cmp_Or_int_at alts_nil)) (sums_nil))))))) (B := slices_BinarySearchFunc_fdb_key_c99_B slices_BinarySearchFunc_fdb_key_c99_L0 cmp_Compare_int cmp_Compare_uint64 cmp_Or_int) (hooks_add (fn := Try.f98) (by kernel_rfl) (by kernel_rfl) (blk_cons (bkOf_ok (blts_cons slices_BinarySearchFunc_fdb_key_c99_L0_at blts_nil)) blk_nil) (hooks_nil)) opts 40) fun k => slices_BinarySearchFunc_fdb_key_c99_eq slices_BinarySearchFunc_fdb_key_c99_L0 cmp_Compare_int cmp_Compare_uint64 cmp_Or_int _ _ _ _ _ k
/- (*weirgate/fdb.Table).find -/
def fdb_Table_find_T {α : Type} (Gslices_BinarySearchFunc_fdb_key_c99 : Int → Int → Bool → Nat → (Nat → Nat → PV) → (Int → Bool → Bool → Nat → (Nat → Nat → PV) → Option α) → (Int → Bool → Nat → (Nat → Nat → PV) → Option α) → Option α) (a_1 : Int) (a_2 : Int) (a_3 : Int) (a_4 : MapL) (a_5 : Bool) (a_6 : Nat) (a_7 : Nat → Nat → PV) (k0 : Int → Bool → Int → MapL → Bool → Nat → (Nat → Nat → PV) → Option α) (k1 : Int → Int → MapL → Bool → Nat → (Nat → Nat → PV) → Option α) : Option α := Gslices_BinarySearchFunc_fdb_key_c99 a_1 a_2 a_5 a_6 a_7
  (fun r_8 r_9 r_10 r_11 r_12 => k0 r_8 r_9 a_3 a_4 r_10 r_11 r_12)
  (fun r_8 r_9 r_10 r_11 => k1 r_8 a_3 a_4 r_9 r_10 r_11)
def fdb_Table_find {α : Type} (a_1 : Int) (a_2 : Int) (a_3 : Int) (a_4 : MapL) (a_5 : Bool) (a_6 : Nat) (a_7 : Nat → Nat → PV) (k0 : Int → Bool → Int → MapL → Bool → Nat → (Nat → Nat → PV) → Option α) (k1 : Int → Int → MapL → Bool → Nat → (Nat → Nat → PV) → Option α) : Option α := fdb_Table_find_T slices_BinarySearchFunc_fdb_key_c99 a_1 a_2 a_3 a_4 a_5 a_6 a_7 k0 k1
def fdb_Table_find_S (Gslices_BinarySearchFunc_fdb_key_c99 : Int → Int → Bool → Nat → (Nat → Nat → PV) → (Int → Bool → Bool → Nat → (Nat → Nat → PV) → Option Out) → (Int → Bool → Nat → (Nat → Nat → PV) → Option Out) → Option Out) : List (Nat × Sm) := [(38, yes), (85, (insSm 4 32)), (44, statSm), (98, smOf [(slices_BinarySearchFunc_fdb_key_c99_p, fun h k => Gslices_BinarySearchFunc_fdb_key_c99 (gI h 0) (gI h 1) (gB h 2) (gN h 3) (gF h 4) (fun r0 r1 r2 r3 r4 => k (.tup [.c (.pv (.val (.int .i64 r0))), .c (.pv (.val (.bool r1)))]) [.parr false r2 (.int .u64 (.int .i64 (.int .i64 (.int .i64 .nil)))) 4 r3 (r4)]) (fun r0 r1 r2 r3 => k (.tup [.c (.pv (.val (.int .i64 r0))), .c (.pv (.val (.bool false)))]) [.parr false r1 (.int .u64 (.int .i64 (.int .i64 (.int .i64 .nil)))) 4 r2 (r3)]))])]
def fdb_Table_find_B (Gslices_BinarySearchFunc_fdb_key_c99 : Int → Int → Bool → Nat → (Nat → Nat → PV) → (Int → Bool → Bool → Nat → (Nat → Nat → PV) → Option Out) → (Int → Bool → Nat → (Nat → Nat → PV) → Option Out) → Option Out) : Hooks := []
theorem fdb_Table_find_eq (Gslices_BinarySearchFunc_fdb_key_c99 : Int → Int → Bool → Nat → (Nat → Nat → PV) → (Int → Bool → Bool → Nat → (Nat → Nat → PV) → Option Out) → (Int → Bool → Nat → (Nat → Nat → PV) → Option Out) → Option Out) (a_1 : Int) (a_2 : Int) (a_3 : Int) (a_4 : MapL) (a_5 : Bool) (a_6 : Nat) (a_7 : Nat → Nat → PV) (k : FK) : runS tt (has eql) Try.prog.funcs 18446744073709551616 (fdb_Table_find_S Gslices_BinarySearchFunc_fdb_key_c99) (fdb_Table_find_B Gslices_BinarySearchFunc_fdb_key_c99) opts 40 77 [.v (.c (.ptr 0 0)), .v (.agg [.pv (.val (.int .i64 a_1)), .pv (.val (.int .u64 a_2))])] [.cells false [.pv (.val (.int .i64 a_3)), .mp 1, .own 2], .mapo [.int .i64 0, .int .u64 0] true (.int .i64 .nil) 1 false a_4, .parr false a_5 (.int .u64 (.int .i64 (.int .i64 (.int .i64 .nil)))) 4 a_6 (a_7)] k = fdb_Table_find_T Gslices_BinarySearchFunc_fdb_key_c99 a_1 a_2 a_3 a_4 a_5 a_6 a_7 (fun r0 r1 r2 r3 r4 r5 r6 => k (.tup [.c (.pv (.val (.int .i64 r0))), .c (.pv (.val (.bool r1)))]) [.cells false [.pv (.val (.int .i64 r2)), .mp 1, .own 2], .mapo [.int .i64 0, .int .u64 0] true (.int .i64 .nil) 1 false r3, .parr false r4 (.int .u64 (.int .i64 (.int .i64 (.int .i64 .nil)))) 4 r5 (r6)]) (fun r0 r1 r2 r3 r4 r5 => k (.tup [.c (.pv (.val (.int .i64 r0))), .c (.pv (.val (.bool false)))]) [.cells false [.pv (.val (.int .i64 r1)), .mp 1, .own 2], .mapo [.int .i64 0, .int .u64 0] true (.int .i64 .nil) 1 false r2, .parr false r3 (.int .u64 (.int .i64 (.int .i64 (.int .i64 .nil)))) 4 r4 (r5)]) := by kernel_rfl
def fdb_Table_find_p : PAr := ⟨[.v (.c (.ptr 0 0)), .v (.agg [.pv (.int .i64 .h), .pv (.int .u64 .h)])], [.cells (.l false) [.pv (.int .i64 .h), .mp 1, .own 2], .mapo [.int .i64 0, .int .u64 0] true (.int .i64 .nil) 1 false, .parr (.l false) .h (.int .u64 (.int .i64 (.int .i64 (.int .i64 .nil)))) 4 .h]⟩
def fdb_Table_find_F (h : List Hole) (k : FK) : Option Out := fdb_Table_find (gI h 0) (gI h 1) (gI h 2) (gM h 3) (gB h 4) (gN h 5) (gF h 6) (fun r0 r1 r2 r3 r4 r5 r6 => k (.tup [.c (.pv (.val (.int .i64 r0))), .c (.pv (.val (.bool r1)))]) [.cells false [.pv (.val (.int .i64 r2)), .mp 1, .own 2], .mapo [.int .i64 0, .int .u64 0] true (.int .i64 .nil) 1 false r3, .parr false r4 (.int .u64 (.int .i64 (.int .i64 (.int .i64 .nil)))) 4 r5 (r6)]) (fun r0 r1 r2 r3 r4 r5 => k (.tup [.c (.pv (.val (.int .i64 r0))), .c (.pv (.val (.bool false)))]) [.cells false [.pv (.val (.int .i64 r1)), .mp 1, .own 2], .mapo [.int .i64 0, .int .u64 0] true (.int .i64 .nil) 1 false r2, .parr false r3 (.int .u64 (.int .i64 (.int .i64 (.int .i64 .nil)))) 4 r4 (r5)])
theorem fdb_Table_find_at (h : List Hole) : CallAt Try.prog 77 (arFill fdb_Table_find_p h).1 (arFill fdb_Table_find_p h).2 (fdb_Table_find_F h) := by
  have e : arFill fdb_Table_find_p h = ([.v (.c (.ptr 0 0)), .v (.agg [.pv (.val (.int .i64 (gI h 0))), .pv (.val (.int .u64 (gI h 1)))])], [.cells false [.pv (.val (.int .i64 (gI h 2))), .mp 1, .own 2], .mapo [.int .i64 0, .int .u64 0] true (.int .i64 .nil) 1 false (gM h 3), .parr false (gB h 4) (.int .u64 (.int .i64 (.int .i64 (.int .i64 .nil)))) 4 (gN h 5) ((gF h 6))]) := by kernel_rfl
  rw [e]; exact callAt_of (runS_ok ttOk eqOk mixed (names_ok namesOk) (S := fdb_Table_find_S slices_BinarySearchFunc_fdb_key_c99) (sums_cons yes38_ok (sums_cons insert_ok (sums_cons stat_ok (sums_cons (smOf_ok (alts_cons slices_BinarySearchFunc_fdb_key_c99_at alts_nil)) (sums_nil))))) (B := fdb_Table_find_B slices_BinarySearchFunc_fdb_key_c99) (hooks_nil) opts 40) fun k => fdb_Table_find_eq slices_BinarySearchFunc_fdb_key_c99 _ _ _ _ _ _ _ k
def e11 (x0 : Nat → Nat → PV) (x1 : Int) (x2 : Int) (x3 : Int) (x4 : Int) (x5 : Int) : Nat → Nat → PV := setf (x0) x1.toNat 0 [.val (.int .u64 x2), .val (.int .i64 x3), .val (.int .i64 x4), .val (.int .i64 x5)]
/- slices.MinFunc[[]weirgate/fdb.Entry,weirgate/fdb.Entry]: loop 0 -/
def slices_MinFunc_fdb_Entry_c79_L0_S (Gcmp_Compare_int : Int → Int → (Int → Option Out) → Option Out) (Gcmp_Compare_uint64 : Int → Int → (Int → Option Out) → Option Out) (Gcmp_Or_int : Bool → Nat → (Nat → Nat → PV) → (Int → Bool → Nat → (Nat → Nat → PV) → Option Out) → Option Out) : List (Nat × Sm) := [(38, yes), (85, (insSm 4 32)), (44, statSm), (81, smOf [(cmp_Compare_int_p, fun h k => Gcmp_Compare_int (gI h 0) (gI h 1) (fun r0 => k (.v (.c (.pv (.val (.int .i64 r0))))) []))]), (101, smOf [(cmp_Compare_uint64_p, fun h k => Gcmp_Compare_uint64 (gI h 0) (gI h 1) (fun r0 => k (.v (.c (.pv (.val (.int .i64 r0))))) []))]), (80, smOf [(cmp_Or_int_p, fun h k => Gcmp_Or_int (gB h 0) (gN h 1) (gF h 2) (fun r0 r1 r2 r3 => k (.v (.c (.pv (.val (.int .i64 r0))))) [.parr false r1 (.int .i64 .nil) 1 r2 (r3)]))])]
def slices_MinFunc_fdb_Entry_c79_L0_B (Gcmp_Compare_int : Int → Int → (Int → Option Out) → Option Out) (Gcmp_Compare_uint64 : Int → Int → (Int → Option Out) → Option Out) (Gcmp_Or_int : Bool → Nat → (Nat → Nat → PV) → (Int → Bool → Nat → (Nat → Nat → PV) → Option Out) → Option Out) : Hooks := []
noncomputable def slices_MinFunc_fdb_Entry_c79_L0_C (Gcmp_Compare_int : Int → Int → (Int → Option Out) → Option Out) (Gcmp_Compare_uint64 : Int → Int → (Int → Option Out) → Option Out) (Gcmp_Or_int : Bool → Nat → (Nat → Nat → PV) → (Int → Bool → Nat → (Nat → Nat → PV) → Option Out) → Option Out) : Ctx := { tt := tt, eqs := has eql, call := runS tt (has eql) Try.prog.funcs 18446744073709551616 (slices_MinFunc_fdb_Entry_c79_L0_S Gcmp_Compare_int Gcmp_Compare_uint64 Gcmp_Or_int) (slices_MinFunc_fdb_Entry_c79_L0_B Gcmp_Compare_int Gcmp_Compare_uint64 Gcmp_Or_int) opts 40, fuel := 18446744073709551616, blk := fun i => aget [] i, bor := opts.bor }
def slices_MinFunc_fdb_Entry_c79_L0_lo : Vx → List Nat := fun | .normal => [4, 5] | .exit j => (fun _ => []) j | .ret => [4]
def slices_MinFunc_fdb_Entry_c79_L0_h0 (a_1 : Int) (a_2 : Bool) (a_3 : Nat) (a_4 : Nat → Nat → PV) (a_5 : Int) (a_6 : Int) (a_7 : Int) (a_8 : Int) : St := { n := 33, m := 1, t := [(0, .v (.c (.own 0))), (1, .v (.c (.clo 79 []))), (4, .v (.c (.ptr 1 0))), (5, .v (.c (.ptr 2 0))), (6, .v (.c (.pv (.val (.int .i64 a_1)))))], h := [(0, .parr false a_2 (.int .u64 (.int .i64 (.int .i64 (.int .i64 .nil)))) 4 a_3 (a_4)), (1, .cells false [.pv (.val (.int .u64 0)), .pv (.val (.int .i64 0)), .pv (.val (.int .i64 0)), .pv (.val (.int .i64 0))]), (2, .cells false [.pv (.val (.int .u64 a_5)), .pv (.val (.int .i64 a_6)), .pv (.val (.int .i64 a_7)), .pv (.val (.int .i64 a_8))])], nx := 3 }
def slices_MinFunc_fdb_Entry_c79_L0_x0 (r0 : Bool) (r1 : Nat) (r2 : Nat → Nat → PV) (r3 : Int) (r4 : Int) (r5 : Int) (r6 : Int) : St := { n := 33, m := 1, t := [(4, .v (.c (.ptr 1 0))), (5, .v (.c (.ptr 2 0)))], h := [(0, .parr false r0 (.int .u64 (.int .i64 (.int .i64 (.int .i64 .nil)))) 4 r1 (r2)), (1, .cells false [.pv (.val (.int .u64 0)), .pv (.val (.int .i64 0)), .pv (.val (.int .i64 0)), .pv (.val (.int .i64 0))]), (2, .cells false [.pv (.val (.int .u64 r3)), .pv (.val (.int .i64 r4)), .pv (.val (.int .i64 r5)), .pv (.val (.int .i64 r6))])], nx := 3 }
def slices_MinFunc_fdb_Entry_c79_L0_s0 {α : Type} (Gcmp_Compare_int : Int → Int → (Int → Option α) → Option α) (Gcmp_Compare_uint64 : Int → Int → (Int → Option α) → Option α) (Gcmp_Or_int : Bool → Nat → (Nat → Nat → PV) → (Int → Bool → Nat → (Nat → Nat → PV) → Option α) → Option α) (rec0 : Int → Bool → Nat → (Nat → Nat → PV) → Int → Int → Int → Int → Option α) (k0 : Bool → Nat → (Nat → Nat → PV) → Int → Int → Int → Int → Option α) (a_1 : Int) (a_2 : Bool) (a_3 : Nat) (a_4 : Nat → Nat → PV) (a_5 : Int) (a_6 : Int) (a_7 : Int) (a_8 : Int) : Option α := bif decide (a_1 < (a_3 : Int)) then
  bif inb a_1 a_3 then
   Gcmp_Compare_int (numOf (a_4 a_1.toNat 3)) a_8
    (fun r_9 => Gcmp_Compare_int (numOf (a_4 a_1.toNat 1)) a_6
     (fun r_10 => Gcmp_Compare_uint64 (numOf (a_4 a_1.toNat 0)) a_5
      (fun r_11 => Gcmp_Or_int false 2 (rowOf 1 [.val (.int .i64 r_10), .val (.int .i64 r_11)])
       (fun r_12 r_13 r_14 r_15 => Gcmp_Or_int false 2 (rowOf 1 [.val (.int .i64 r_9), .val (.int .i64 r_12)])
        (fun r_16 r_17 r_18 r_19 => bif decide (r_16 < 0) then
         bif inb a_1 a_3 then
          rec0 (IntKind.i64.wrap (a_1 + 1)) a_2 a_3 a_4 (numOf (a_4 a_1.toNat 0)) (numOf (a_4 a_1.toNat 1)) (numOf (a_4 a_1.toNat 2)) (numOf (a_4 a_1.toNat 3))
         else none /- test -/
        else rec0 (IntKind.i64.wrap (a_1 + 1)) a_2 a_3 a_4 a_5 a_6 a_7 a_8)))))
  else none /- test -/
 else k0 a_2 a_3 a_4 a_5 a_6 a_7 a_8
def slices_MinFunc_fdb_Entry_c79_L0_l0 {α : Type} (k0 : Bool → Nat → (Nat → Nat → PV) → Int → Int → Int → Int → Option α) : Nat → Int → Bool → Nat → (Nat → Nat → PV) → Int → Int → Int → Int → Option α
  | 0 => fun _ _ _ _ _ _ _ _ => none
  | n + 1 => slices_MinFunc_fdb_Entry_c79_L0_s0 cmp_Compare_int cmp_Compare_uint64 cmp_Or_int (slices_MinFunc_fdb_Entry_c79_L0_l0 k0 n) k0
theorem slices_MinFunc_fdb_Entry_c79_L0_s0_eq (Gcmp_Compare_int : Int → Int → (Int → Option Out) → Option Out) (Gcmp_Compare_uint64 : Int → Int → (Int → Option Out) → Option Out) (Gcmp_Or_int : Bool → Nat → (Nat → Nat → PV) → (Int → Bool → Nat → (Nat → Nat → PV) → Option Out) → Option Out) (k : Kont) (n : Nat) (a_1 : Int) (a_2 : Bool) (a_3 : Nat) (a_4 : Nat → Nat → PV) (a_5 : Int) (a_6 : Int) (a_7 : Int) (a_8 : Int) : loopN (fun st k => exec (slices_MinFunc_fdb_Entry_c79_L0_C Gcmp_Compare_int Gcmp_Compare_uint64 Gcmp_Or_int) (loopBody (codeAt Try.f78 0)) st k) [0, 1, 4, 5, 6] (loopK 0 (kn slices_MinFunc_fdb_Entry_c79_L0_lo k)) (n + 1) (slices_MinFunc_fdb_Entry_c79_L0_h0 a_1 a_2 a_3 a_4 a_5 a_6 a_7 a_8) = slices_MinFunc_fdb_Entry_c79_L0_s0 Gcmp_Compare_int Gcmp_Compare_uint64 Gcmp_Or_int (fun a_1 a_2 a_3 a_4 a_5 a_6 a_7 a_8 => loopN (fun st k => exec (slices_MinFunc_fdb_Entry_c79_L0_C Gcmp_Compare_int Gcmp_Compare_uint64 Gcmp_Or_int) (loopBody (codeAt Try.f78 0)) st k) [0, 1, 4, 5, 6] (loopK 0 (kn slices_MinFunc_fdb_Entry_c79_L0_lo k)) n (slices_MinFunc_fdb_Entry_c79_L0_h0 a_1 a_2 a_3 a_4 a_5 a_6 a_7 a_8)) (fun r0 r1 r2 r3 r4 r5 r6 => k .normal (slices_MinFunc_fdb_Entry_c79_L0_x0 r0 r1 r2 r3 r4 r5 r6)) a_1 a_2 a_3 a_4 a_5 a_6 a_7 a_8 := by kernel_rfl
theorem slices_MinFunc_fdb_Entry_c79_L0_l0_eq (k : Kont) : ∀ (n : Nat) (a_1 : Int) (a_2 : Bool) (a_3 : Nat) (a_4 : Nat → Nat → PV) (a_5 : Int) (a_6 : Int) (a_7 : Int) (a_8 : Int), loopN (fun st k => exec (slices_MinFunc_fdb_Entry_c79_L0_C cmp_Compare_int cmp_Compare_uint64 cmp_Or_int) (loopBody (codeAt Try.f78 0)) st k) [0, 1, 4, 5, 6] (loopK 0 (kn slices_MinFunc_fdb_Entry_c79_L0_lo k)) n (slices_MinFunc_fdb_Entry_c79_L0_h0 a_1 a_2 a_3 a_4 a_5 a_6 a_7 a_8) = slices_MinFunc_fdb_Entry_c79_L0_l0 (fun r0 r1 r2 r3 r4 r5 r6 => k .normal (slices_MinFunc_fdb_Entry_c79_L0_x0 r0 r1 r2 r3 r4 r5 r6)) n a_1 a_2 a_3 a_4 a_5 a_6 a_7 a_8
  | 0, _, _, _, _, _, _, _, _ => rfl
  | n + 1, a_1, a_2, a_3, a_4, a_5, a_6, a_7, a_8 => by
    have r0 : (fun a_1 a_2 a_3 a_4 a_5 a_6 a_7 a_8 => loopN (fun st k => exec (slices_MinFunc_fdb_Entry_c79_L0_C cmp_Compare_int cmp_Compare_uint64 cmp_Or_int) (loopBody (codeAt Try.f78 0)) st k) [0, 1, 4, 5, 6] (loopK 0 (kn slices_MinFunc_fdb_Entry_c79_L0_lo k)) n (slices_MinFunc_fdb_Entry_c79_L0_h0 a_1 a_2 a_3 a_4 a_5 a_6 a_7 a_8)) = slices_MinFunc_fdb_Entry_c79_L0_l0 (fun r0 r1 r2 r3 r4 r5 r6 => k .normal (slices_MinFunc_fdb_Entry_c79_L0_x0 r0 r1 r2 r3 r4 r5 r6)) n := funext fun a_1 => funext fun a_2 => funext fun a_3 => funext fun a_4 => funext fun a_5 => funext fun a_6 => funext fun a_7 => funext fun a_8 => slices_MinFunc_fdb_Entry_c79_L0_l0_eq k n a_1 a_2 a_3 a_4 a_5 a_6 a_7 a_8
    exact (slices_MinFunc_fdb_Entry_c79_L0_s0_eq cmp_Compare_int cmp_Compare_uint64 cmp_Or_int k n a_1 a_2 a_3 a_4 a_5 a_6 a_7 a_8).trans (by rw [r0]; rfl)
def slices_MinFunc_fdb_Entry_c79_L0 {α : Type} (a_1 : Bool) (a_2 : Nat) (a_3 : Nat → Nat → PV) (a_4 : Int) (a_5 : Int) (a_6 : Int) (a_7 : Int) (k0 : Bool → Nat → (Nat → Nat → PV) → Int → Int → Int → Int → Option α) : Option α := slices_MinFunc_fdb_Entry_c79_L0_l0 k0 18446744073709551616 1 a_1 a_2 a_3 a_4 a_5 a_6 a_7
def slices_MinFunc_fdb_Entry_c79_L0_e (a_1 : Bool) (a_2 : Nat) (a_3 : Nat → Nat → PV) (a_4 : Int) (a_5 : Int) (a_6 : Int) (a_7 : Int) : St := { n := 33, m := 1, t := [(0, .v (.c (.own 0))), (1, .v (.c (.clo 79 []))), (4, .v (.c (.ptr 1 0))), (5, .v (.c (.ptr 2 0))), (6, .v (.c (.pv (.val (.int .i64 1)))))], h := [(0, .parr false a_1 (.int .u64 (.int .i64 (.int .i64 (.int .i64 .nil)))) 4 a_2 (a_3)), (1, .cells false [.pv (.val (.int .u64 0)), .pv (.val (.int .i64 0)), .pv (.val (.int .i64 0)), .pv (.val (.int .i64 0))]), (2, .cells false [.pv (.val (.int .u64 a_4)), .pv (.val (.int .i64 a_5)), .pv (.val (.int .i64 a_6)), .pv (.val (.int .i64 a_7))])], nx := 3 }
theorem slices_MinFunc_fdb_Entry_c79_L0_eq (a_1 : Bool) (a_2 : Nat) (a_3 : Nat → Nat → PV) (a_4 : Int) (a_5 : Int) (a_6 : Int) (a_7 : Int) (k : Kont) : exec (slices_MinFunc_fdb_Entry_c79_L0_C cmp_Compare_int cmp_Compare_uint64 cmp_Or_int) (codeAt Try.f78 0) (slices_MinFunc_fdb_Entry_c79_L0_e a_1 a_2 a_3 a_4 a_5 a_6 a_7) (kn slices_MinFunc_fdb_Entry_c79_L0_lo k) = slices_MinFunc_fdb_Entry_c79_L0 a_1 a_2 a_3 a_4 a_5 a_6 a_7 (fun r0 r1 r2 r3 r4 r5 r6 => k .normal (slices_MinFunc_fdb_Entry_c79_L0_x0 r0 r1 r2 r3 r4 r5 r6)) :=
  (by kernel_rfl : _ = loopN (fun st k => exec (slices_MinFunc_fdb_Entry_c79_L0_C cmp_Compare_int cmp_Compare_uint64 cmp_Or_int) (loopBody (codeAt Try.f78 0)) st k) [0, 1, 4, 5, 6] (loopK 0 (kn slices_MinFunc_fdb_Entry_c79_L0_lo k)) 18446744073709551616 (slices_MinFunc_fdb_Entry_c79_L0_h0 1 a_1 a_2 a_3 a_4 a_5 a_6 a_7)).trans (slices_MinFunc_fdb_Entry_c79_L0_l0_eq k 18446744073709551616 1 a_1 a_2 a_3 a_4 a_5 a_6 a_7)
def slices_MinFunc_fdb_Entry_c79_L0_p : PSt := { n := 33, m := 1, t := [(0, .v (.c (.own 0))), (1, .v (.c (.clo 79 []))), (4, .v (.c (.ptr 1 0))), (5, .v (.c (.ptr 2 0))), (6, .v (.c (.pv (.int .i64 (.l 1)))))], h := [(0, .parr (.l false) .h (.int .u64 (.int .i64 (.int .i64 (.int .i64 .nil)))) 4 .h), (1, .cells (.l false) [.pv (.int .u64 (.l 0)), .pv (.int .i64 (.l 0)), .pv (.int .i64 (.l 0)), .pv (.int .i64 (.l 0))]), (2, .cells (.l false) [.pv (.int .u64 .h), .pv (.int .i64 .h), .pv (.int .i64 .h), .pv (.int .i64 .h)])], nx := 3 }
def slices_MinFunc_fdb_Entry_c79_L0_F (h : List Hole) (k : Kont) : Option Out := slices_MinFunc_fdb_Entry_c79_L0 (gB h 0) (gN h 1) (gF h 2) (gI h 3) (gI h 4) (gI h 5) (gI h 6) (fun r0 r1 r2 r3 r4 r5 r6 => k .normal (slices_MinFunc_fdb_Entry_c79_L0_x0 r0 r1 r2 r3 r4 r5 r6))
theorem slices_MinFunc_fdb_Entry_c79_L0_at (h : List Hole) : BodyAt Try.prog (codeAt Try.f78 0) (stFill slices_MinFunc_fdb_Entry_c79_L0_p h) (slices_MinFunc_fdb_Entry_c79_L0_F h) := by
  have e : stFill slices_MinFunc_fdb_Entry_c79_L0_p h = slices_MinFunc_fdb_Entry_c79_L0_e (gB h 0) (gN h 1) (gF h 2) (gI h 3) (gI h 4) (gI h 5) (gI h 6) := by kernel_rfl
  rw [e]; exact bodyAt_of (C := slices_MinFunc_fdb_Entry_c79_L0_C cmp_Compare_int cmp_Compare_uint64 cmp_Or_int) ⟨ttOk, eqOk, runS_ok ttOk eqOk mixed (names_ok namesOk) (S := slices_MinFunc_fdb_Entry_c79_L0_S cmp_Compare_int cmp_Compare_uint64 cmp_Or_int) (sums_cons yes38_ok (sums_cons insert_ok (sums_cons stat_ok (sums_cons (smOf_ok (alts_cons cmp_Compare_int_at alts_nil)) (sums_cons (smOf_ok (alts_cons cmp_Compare_uint64_at alts_nil)) (sums_cons (smOf_ok (alts_cons cmp_Or_int_at alts_nil)) (sums_nil))))))) (B := slices_MinFunc_fdb_Entry_c79_L0_B cmp_Compare_int cmp_Compare_uint64 cmp_Or_int) (hooks_nil) opts 40⟩ mixed (hooked_in (by kernel_rfl) blk_nil 0) fun k => slices_MinFunc_fdb_Entry_c79_L0_eq _ _ _ _ _ _ _ k
def e12 (x0 : Int) (x1 : Nat) (x2 : Int) (x3 : Nat → Nat → PV) : Nat → Nat → PV := clrf (((x0.toNat + (x1 - x2.toNat) : Nat) : Int).toNat) (((x1 : Int).toNat) - (((x0.toNat + (x1 - x2.toNat) : Nat) : Int).toNat)) [.int .u64 0, .int .i64 0, .int .i64 0, .int .i64 0] (putf x0.toNat (x1 - x2.toNat) (x3) (fun j c => (x3) (x2.toNat + j) c))
def e13 (x0 : Int) (x1 : Nat) (x2 : Int) (x3 : Nat → Nat → PV) : Nat → Nat → PV := clrf (((x0.toNat + (x1 - x2.toNat) : Nat) : Int).toNat) (((x1 : Int).toNat) - (((x0.toNat + (x1 - x2.toNat) : Nat) : Int).toNat)) [.int .u64 0, .int .i64 0, .int .i64 0, .int .i64 0] (catf x0.toNat (x3) (fun j c => (x3) (x2.toNat + j) c))
/- slices.Delete[[]weirgate/fdb.Entry,weirgate/fdb.Entry] -/
def slices_Delete_fdb_Entry_T {α : Type}  (a_1 : Int) (a_2 : Int) (a_3 : Bool) (a_4 : Nat) (a_5 : Nat → Nat → PV) (k0 : Bool → Nat → (Nat → Nat → PV) → Option α) (k1 : Bool → Nat → (Nat → Nat → PV) → Option α) : Option α := bif (inb (a_4 : Int) (a_4 + 1) && (inb a_2 (((a_4 : Int).toNat) + 1) && (decide (0 ≤ a_1) && decide (a_1 ≤ a_2)))) then
  bif (a_1 == a_2) then
   k0 a_3 a_4 a_5
  else bif inb a_1 (a_4 + 1) then
   bif decide (0 ≤ a_1) then
    bif inb (a_4 : Int) (a_4 + 1) then
     bif (decide (0 ≤ a_2) && decide (a_2 ≤ (a_4 : Int))) then
      bif (Nat.ble (a_1.toNat + (a_4 - a_2.toNat)) a_4 && Nat.ble ((a_1.toNat + (a_4 - a_2.toNat)) * 32) bound) then
       bif inb (a_4 : Int) (a_4 + 1) then
        bif (decide (0 ≤ ((a_1.toNat + (a_4 - a_2.toNat) : Nat) : Int)) && decide (((a_1.toNat + (a_4 - a_2.toNat) : Nat) : Int) ≤ (a_4 : Int))) then
         k1 a_3 (a_1.toNat + (a_4 - a_2.toNat)) (e12 a_1 a_4 a_2 a_5)
        else none /- test -/
       else none /- test -/
      else bif (Nat.ble a_1.toNat a_4 && Nat.ble ((a_1.toNat + (a_4 - a_2.toNat)) * 32) bound) then
       bif inb (a_4 : Int) ((a_1.toNat + (a_4 - a_2.toNat)) + 1) then
        bif (decide (0 ≤ ((a_1.toNat + (a_4 - a_2.toNat) : Nat) : Int)) && decide (((a_1.toNat + (a_4 - a_2.toNat) : Nat) : Int) ≤ (a_4 : Int))) then
         k1 (a_3 && Nat.beq (a_4 - a_2.toNat) 0) (a_1.toNat + (a_4 - a_2.toNat)) (e13 a_1 a_4 a_2 a_5)
        else none /- test -/
       else none /- test -/
      else none /- test -/
     else none /- test -/
    else none /- test -/
   else none /- test -/
  else none /- test -/
 else none /- test -/
def slices_Delete_fdb_Entry {α : Type} (a_1 : Int) (a_2 : Int) (a_3 : Bool) (a_4 : Nat) (a_5 : Nat → Nat → PV) (k0 : Bool → Nat → (Nat → Nat → PV) → Option α) (k1 : Bool → Nat → (Nat → Nat → PV) → Option α) : Option α := slices_Delete_fdb_Entry_T  a_1 a_2 a_3 a_4 a_5 k0 k1
def slices_Delete_fdb_Entry_S  : List (Nat × Sm) := [(38, yes), (85, (insSm 4 32)), (44, statSm)]
def slices_Delete_fdb_Entry_B  : Hooks := []
theorem slices_Delete_fdb_Entry_eq  (a_1 : Int) (a_2 : Int) (a_3 : Bool) (a_4 : Nat) (a_5 : Nat → Nat → PV) (k : FK) : runS tt (has eql) Try.prog.funcs 18446744073709551616 (slices_Delete_fdb_Entry_S ) (slices_Delete_fdb_Entry_B ) opts 40 84 [.v (.c (.own 0)), .v (.c (.pv (.val (.int .i64 a_1)))), .v (.c (.pv (.val (.int .i64 a_2))))] [.parr false a_3 (.int .u64 (.int .i64 (.int .i64 (.int .i64 .nil)))) 4 a_4 (a_5)] k = slices_Delete_fdb_Entry_T  a_1 a_2 a_3 a_4 a_5 (fun r0 r1 r2 => k (.v (.c (.own 0))) [.parr false r0 (.int .u64 (.int .i64 (.int .i64 (.int .i64 .nil)))) 4 r1 (r2)]) (fun r0 r1 r2 => k (.v (.c (.own 1))) [.dead, .parr false r0 (.int .u64 (.int .i64 (.int .i64 (.int .i64 .nil)))) 4 r1 (r2)]) := by kernel_rfl
def slices_Delete_fdb_Entry_p : PAr := ⟨[.v (.c (.own 0)), .v (.c (.pv (.int .i64 .h))), .v (.c (.pv (.int .i64 .h)))], [.parr (.l false) .h (.int .u64 (.int .i64 (.int .i64 (.int .i64 .nil)))) 4 .h]⟩
def slices_Delete_fdb_Entry_F (h : List Hole) (k : FK) : Option Out := slices_Delete_fdb_Entry (gI h 0) (gI h 1) (gB h 2) (gN h 3) (gF h 4) (fun r0 r1 r2 => k (.v (.c (.own 0))) [.parr false r0 (.int .u64 (.int .i64 (.int .i64 (.int .i64 .nil)))) 4 r1 (r2)]) (fun r0 r1 r2 => k (.v (.c (.own 1))) [.dead, .parr false r0 (.int .u64 (.int .i64 (.int .i64 (.int .i64 .nil)))) 4 r1 (r2)])
theorem slices_Delete_fdb_Entry_at (h : List Hole) : CallAt Try.prog 84 (arFill slices_Delete_fdb_Entry_p h).1 (arFill slices_Delete_fdb_Entry_p h).2 (slices_Delete_fdb_Entry_F h) := by
  have e : arFill slices_Delete_fdb_Entry_p h = ([.v (.c (.own 0)), .v (.c (.pv (.val (.int .i64 (gI h 0))))), .v (.c (.pv (.val (.int .i64 (gI h 1)))))], [.parr false (gB h 2) (.int .u64 (.int .i64 (.int .i64 (.int .i64 .nil)))) 4 (gN h 3) ((gF h 4))]) := by kernel_rfl
  rw [e]; exact callAt_of (runS_ok ttOk eqOk mixed (names_ok namesOk) (S := slices_Delete_fdb_Entry_S ) (sums_cons yes38_ok (sums_cons insert_ok (sums_cons stat_ok (sums_nil)))) (B := slices_Delete_fdb_Entry_B ) (hooks_nil) opts 40) fun k => slices_Delete_fdb_Entry_eq  _ _ _ _ _ k
def e14 (x0 : Int) (x1 : Int) (x2 : Int) (x3 : Int) : Nat → Nat → PV := rowOf 4 [.val (.int .u64 x0), .val (.int .i64 x1), .val (.int .i64 x2), .val (.int .i64 x3)]
/- (*weirgate/fdb.Table).Learn -/
def fdb_Table_Learn_T {α : Type} (Gmac_Group : Int → (Bool → Option α) → Option α) (Gfdb_Table_find : Int → Int → Int → MapL → Bool → Nat → (Nat → Nat → PV) → (Int → Bool → Int → MapL → Bool → Nat → (Nat → Nat → PV) → Option α) → (Int → Int → MapL → Bool → Nat → (Nat → Nat → PV) → Option α) → Option α) (Gslices_MinFunc_fdb_Entry_c79_L0 : Bool → Nat → (Nat → Nat → PV) → Int → Int → Int → Int → (Bool → Nat → (Nat → Nat → PV) → Int → Int → Int → Int → Option α) → Option α) (Gslices_Delete_fdb_Entry : Int → Int → Bool → Nat → (Nat → Nat → PV) → (Bool → Nat → (Nat → Nat → PV) → Option α) → (Bool → Nat → (Nat → Nat → PV) → Option α) → Option α) (a_1 : Int) (a_2 : Int) (a_3 : Int) (a_4 : Int) (a_5 : MapL) (a_6 : Bool) (a_7 : Nat) (a_8 : Nat → Nat → PV) (k0 : Int → MapL → Bool → Nat → (Nat → Nat → PV) → Option α) (k1 : Int → MapL → Bool → Nat → (Nat → Nat → PV) → Option α) (k2 : Int → MapL → Nat → (Nat → Nat → PV) → Option α) : Option α := bif (a_1 == 0) then
  k0 a_4 a_5 a_6 a_7 a_8
 else bif !((shrI .u64 a_1 48) == 0) then
  k0 a_4 a_5 a_6 a_7 a_8
 else Gmac_Group a_1
  (fun r_9 => bif r_9 then
   k0 a_4 a_5 a_6 a_7 a_8
  else bif decide (a_2 < 1) then
   k0 a_4 a_5 a_6 a_7 a_8
  else bif decide (a_2 ≥ 4095) then
   k0 a_4 a_5 a_6 a_7 a_8
  else bif decide (a_3 < 0) then
   k0 a_4 a_5 a_6 a_7 a_8
  else bif decide (a_3 ≥ 8) then
   k0 a_4 a_5 a_6 a_7 a_8
  else bif mhas a_5 [.val (.int .i64 a_2), .val (.int .u64 a_1)] then
   k0 a_4 a_5 a_6 a_7 a_8
  else Gfdb_Table_find a_2 a_1 a_4 a_5 a_6 a_7 a_8
   (fun r_10 r_11 r_12 r_13 r_14 r_15 r_16 => bif r_11 then
    bif inb r_10 r_15 then
     k1 r_12 r_13 r_14 r_15 (e11 r_16 r_10 a_1 a_2 a_3 a_4)
    else none /- test -/
   else bif decide ((r_15 : Int) ≥ 32) then
    bif decide ((r_15 : Int) < 1) then
     none /- op makeInterface -/
    else bif inb 0 r_15 then
     Gslices_MinFunc_fdb_Entry_c79_L0 r_14 r_15 r_16 (numOf (r_16 0 0)) (numOf (r_16 0 1)) (numOf (r_16 0 2)) (numOf (r_16 0 3))
      (fun r_17 r_18 r_19 r_20 r_21 r_22 r_23 => Gfdb_Table_find r_21 r_20 r_12 r_13 r_17 r_18 r_19
       (fun r_24 r_25 r_26 r_27 r_28 r_29 r_30 => Gslices_Delete_fdb_Entry r_24 (IntKind.i64.wrap (r_24 + 1)) r_28 r_29 r_30
        (fun r_31 r_32 r_33 => Gfdb_Table_find a_2 a_1 r_26 r_27 r_31 r_32 r_33
         (fun r_34 r_35 r_36 r_37 r_38 r_39 r_40 => bif (inb r_34 (r_39 + 1) && Nat.ble ((r_39 + 1) * 32) bound) then
          k2 r_36 r_37 (r_39 + 1) (insf r_34.toNat (r_40) (e14 a_1 a_2 a_3 a_4))
         else none /- test -/)
         (fun r_34 r_35 r_36 r_37 r_38 r_39 => bif (inb r_34 (r_38 + 1) && Nat.ble ((r_38 + 1) * 32) bound) then
          k2 r_35 r_36 (r_38 + 1) (insf r_34.toNat (r_39) (e14 a_1 a_2 a_3 a_4))
         else none /- test -/))
        (fun r_31 r_32 r_33 => Gfdb_Table_find a_2 a_1 r_26 r_27 r_31 r_32 r_33
         (fun r_34 r_35 r_36 r_37 r_38 r_39 r_40 => bif (inb r_34 (r_39 + 1) && Nat.ble ((r_39 + 1) * 32) bound) then
          k2 r_36 r_37 (r_39 + 1) (insf r_34.toNat (r_40) (e14 a_1 a_2 a_3 a_4))
         else none /- test -/)
         (fun r_34 r_35 r_36 r_37 r_38 r_39 => bif (inb r_34 (r_38 + 1) && Nat.ble ((r_38 + 1) * 32) bound) then
          k2 r_35 r_36 (r_38 + 1) (insf r_34.toNat (r_39) (e14 a_1 a_2 a_3 a_4))
         else none /- test -/)))
       (fun r_24 r_25 r_26 r_27 r_28 r_29 => Gslices_Delete_fdb_Entry r_24 (IntKind.i64.wrap (r_24 + 1)) r_27 r_28 r_29
        (fun r_30 r_31 r_32 => Gfdb_Table_find a_2 a_1 r_25 r_26 r_30 r_31 r_32
         (fun r_33 r_34 r_35 r_36 r_37 r_38 r_39 => bif (inb r_33 (r_38 + 1) && Nat.ble ((r_38 + 1) * 32) bound) then
          k2 r_35 r_36 (r_38 + 1) (insf r_33.toNat (r_39) (e14 a_1 a_2 a_3 a_4))
         else none /- test -/)
         (fun r_33 r_34 r_35 r_36 r_37 r_38 => bif (inb r_33 (r_37 + 1) && Nat.ble ((r_37 + 1) * 32) bound) then
          k2 r_34 r_35 (r_37 + 1) (insf r_33.toNat (r_38) (e14 a_1 a_2 a_3 a_4))
         else none /- test -/))
        (fun r_30 r_31 r_32 => Gfdb_Table_find a_2 a_1 r_25 r_26 r_30 r_31 r_32
         (fun r_33 r_34 r_35 r_36 r_37 r_38 r_39 => bif (inb r_33 (r_38 + 1) && Nat.ble ((r_38 + 1) * 32) bound) then
          k2 r_35 r_36 (r_38 + 1) (insf r_33.toNat (r_39) (e14 a_1 a_2 a_3 a_4))
         else none /- test -/)
         (fun r_33 r_34 r_35 r_36 r_37 r_38 => bif (inb r_33 (r_37 + 1) && Nat.ble ((r_37 + 1) * 32) bound) then
          k2 r_34 r_35 (r_37 + 1) (insf r_33.toNat (r_38) (e14 a_1 a_2 a_3 a_4))
         else none /- test -/))))
    else none /- test -/
   else Gfdb_Table_find a_2 a_1 r_12 r_13 r_14 r_15 r_16
    (fun r_17 r_18 r_19 r_20 r_21 r_22 r_23 => bif (inb r_17 (r_22 + 1) && Nat.ble ((r_22 + 1) * 32) bound) then
     k2 r_19 r_20 (r_22 + 1) (insf r_17.toNat (r_23) (e14 a_1 a_2 a_3 a_4))
    else none /- test -/)
    (fun r_17 r_18 r_19 r_20 r_21 r_22 => bif (inb r_17 (r_21 + 1) && Nat.ble ((r_21 + 1) * 32) bound) then
     k2 r_18 r_19 (r_21 + 1) (insf r_17.toNat (r_22) (e14 a_1 a_2 a_3 a_4))
    else none /- test -/))
   (fun r_10 r_11 r_12 r_13 r_14 r_15 => bif decide ((r_14 : Int) ≥ 32) then
    bif decide ((r_14 : Int) < 1) then
     none /- op makeInterface -/
    else bif inb 0 r_14 then
     Gslices_MinFunc_fdb_Entry_c79_L0 r_13 r_14 r_15 (numOf (r_15 0 0)) (numOf (r_15 0 1)) (numOf (r_15 0 2)) (numOf (r_15 0 3))
      (fun r_16 r_17 r_18 r_19 r_20 r_21 r_22 => Gfdb_Table_find r_20 r_19 r_11 r_12 r_16 r_17 r_18
       (fun r_23 r_24 r_25 r_26 r_27 r_28 r_29 => Gslices_Delete_fdb_Entry r_23 (IntKind.i64.wrap (r_23 + 1)) r_27 r_28 r_29
        (fun r_30 r_31 r_32 => Gfdb_Table_find a_2 a_1 r_25 r_26 r_30 r_31 r_32
         (fun r_33 r_34 r_35 r_36 r_37 r_38 r_39 => bif (inb r_33 (r_38 + 1) && Nat.ble ((r_38 + 1) * 32) bound) then
          k2 r_35 r_36 (r_38 + 1) (insf r_33.toNat (r_39) (e14 a_1 a_2 a_3 a_4))
         else none /- test -/)
         (fun r_33 r_34 r_35 r_36 r_37 r_38 => bif (inb r_33 (r_37 + 1) && Nat.ble ((r_37 + 1) * 32) bound) then
          k2 r_34 r_35 (r_37 + 1) (insf r_33.toNat (r_38) (e14 a_1 a_2 a_3 a_4))
         else none /- test -/))
        (fun r_30 r_31 r_32 => Gfdb_Table_find a_2 a_1 r_25 r_26 r_30 r_31 r_32
         (fun r_33 r_34 r_35 r_36 r_37 r_38 r_39 => bif (inb r_33 (r_38 + 1) && Nat.ble ((r_38 + 1) * 32) bound) then
          k2 r_35 r_36 (r_38 + 1) (insf r_33.toNat (r_39) (e14 a_1 a_2 a_3 a_4))
         else none /- test -/)
         (fun r_33 r_34 r_35 r_36 r_37 r_38 => bif (inb r_33 (r_37 + 1) && Nat.ble ((r_37 + 1) * 32) bound) then
          k2 r_34 r_35 (r_37 + 1) (insf r_33.toNat (r_38) (e14 a_1 a_2 a_3 a_4))
         else none /- test -/)))
       (fun r_23 r_24 r_25 r_26 r_27 r_28 => Gslices_Delete_fdb_Entry r_23 (IntKind.i64.wrap (r_23 + 1)) r_26 r_27 r_28
        (fun r_29 r_30 r_31 => Gfdb_Table_find a_2 a_1 r_24 r_25 r_29 r_30 r_31
         (fun r_32 r_33 r_34 r_35 r_36 r_37 r_38 => bif (inb r_32 (r_37 + 1) && Nat.ble ((r_37 + 1) * 32) bound) then
          k2 r_34 r_35 (r_37 + 1) (insf r_32.toNat (r_38) (e14 a_1 a_2 a_3 a_4))
         else none /- test -/)
         (fun r_32 r_33 r_34 r_35 r_36 r_37 => bif (inb r_32 (r_36 + 1) && Nat.ble ((r_36 + 1) * 32) bound) then
          k2 r_33 r_34 (r_36 + 1) (insf r_32.toNat (r_37) (e14 a_1 a_2 a_3 a_4))
         else none /- test -/))
        (fun r_29 r_30 r_31 => Gfdb_Table_find a_2 a_1 r_24 r_25 r_29 r_30 r_31
         (fun r_32 r_33 r_34 r_35 r_36 r_37 r_38 => bif (inb r_32 (r_37 + 1) && Nat.ble ((r_37 + 1) * 32) bound) then
          k2 r_34 r_35 (r_37 + 1) (insf r_32.toNat (r_38) (e14 a_1 a_2 a_3 a_4))
         else none /- test -/)
         (fun r_32 r_33 r_34 r_35 r_36 r_37 => bif (inb r_32 (r_36 + 1) && Nat.ble ((r_36 + 1) * 32) bound) then
          k2 r_33 r_34 (r_36 + 1) (insf r_32.toNat (r_37) (e14 a_1 a_2 a_3 a_4))
         else none /- test -/))))
    else none /- test -/
   else Gfdb_Table_find a_2 a_1 r_11 r_12 r_13 r_14 r_15
    (fun r_16 r_17 r_18 r_19 r_20 r_21 r_22 => bif (inb r_16 (r_21 + 1) && Nat.ble ((r_21 + 1) * 32) bound) then
     k2 r_18 r_19 (r_21 + 1) (insf r_16.toNat (r_22) (e14 a_1 a_2 a_3 a_4))
    else none /- test -/)
    (fun r_16 r_17 r_18 r_19 r_20 r_21 => bif (inb r_16 (r_20 + 1) && Nat.ble ((r_20 + 1) * 32) bound) then
     k2 r_17 r_18 (r_20 + 1) (insf r_16.toNat (r_21) (e14 a_1 a_2 a_3 a_4))
    else none /- test -/)))
def fdb_Table_Learn {α : Type} (a_1 : Int) (a_2 : Int) (a_3 : Int) (a_4 : Int) (a_5 : MapL) (a_6 : Bool) (a_7 : Nat) (a_8 : Nat → Nat → PV) (k0 : Int → MapL → Bool → Nat → (Nat → Nat → PV) → Option α) (k1 : Int → MapL → Bool → Nat → (Nat → Nat → PV) → Option α) (k2 : Int → MapL → Nat → (Nat → Nat → PV) → Option α) : Option α := fdb_Table_Learn_T mac_Group fdb_Table_find slices_MinFunc_fdb_Entry_c79_L0 slices_Delete_fdb_Entry a_1 a_2 a_3 a_4 a_5 a_6 a_7 a_8 k0 k1 k2
def fdb_Table_Learn_S (Gmac_Group : Int → (Bool → Option Out) → Option Out) (Gfdb_Table_find : Int → Int → Int → MapL → Bool → Nat → (Nat → Nat → PV) → (Int → Bool → Int → MapL → Bool → Nat → (Nat → Nat → PV) → Option Out) → (Int → Int → MapL → Bool → Nat → (Nat → Nat → PV) → Option Out) → Option Out) (Gslices_MinFunc_fdb_Entry_c79_L0 : Bool → Nat → (Nat → Nat → PV) → Int → Int → Int → Int → (Bool → Nat → (Nat → Nat → PV) → Int → Int → Int → Int → Option Out) → Option Out) (Gslices_Delete_fdb_Entry : Int → Int → Bool → Nat → (Nat → Nat → PV) → (Bool → Nat → (Nat → Nat → PV) → Option Out) → (Bool → Nat → (Nat → Nat → PV) → Option Out) → Option Out) : List (Nat × Sm) := [(38, yes), (85, (insSm 4 32)), (44, statSm), (56, smOf [(mac_Group_p, fun h k => Gmac_Group (gI h 0) (fun r0 => k (.v (.c (.pv (.val (.bool r0))))) []))]), (77, smOf [(fdb_Table_find_p, fun h k => Gfdb_Table_find (gI h 0) (gI h 1) (gI h 2) (gM h 3) (gB h 4) (gN h 5) (gF h 6) (fun r0 r1 r2 r3 r4 r5 r6 => k (.tup [.c (.pv (.val (.int .i64 r0))), .c (.pv (.val (.bool r1)))]) [.cells false [.pv (.val (.int .i64 r2)), .mp 1, .own 2], .mapo [.int .i64 0, .int .u64 0] true (.int .i64 .nil) 1 false r3, .parr false r4 (.int .u64 (.int .i64 (.int .i64 (.int .i64 .nil)))) 4 r5 (r6)]) (fun r0 r1 r2 r3 r4 r5 => k (.tup [.c (.pv (.val (.int .i64 r0))), .c (.pv (.val (.bool false)))]) [.cells false [.pv (.val (.int .i64 r1)), .mp 1, .own 2], .mapo [.int .i64 0, .int .u64 0] true (.int .i64 .nil) 1 false r2, .parr false r3 (.int .u64 (.int .i64 (.int .i64 (.int .i64 .nil)))) 4 r4 (r5)]))]), (84, smOf [(slices_Delete_fdb_Entry_p, fun h k => Gslices_Delete_fdb_Entry (gI h 0) (gI h 1) (gB h 2) (gN h 3) (gF h 4) (fun r0 r1 r2 => k (.v (.c (.own 0))) [.parr false r0 (.int .u64 (.int .i64 (.int .i64 (.int .i64 .nil)))) 4 r1 (r2)]) (fun r0 r1 r2 => k (.v (.c (.own 1))) [.dead, .parr false r0 (.int .u64 (.int .i64 (.int .i64 (.int .i64 .nil)))) 4 r1 (r2)]))])]
def fdb_Table_Learn_B (Gmac_Group : Int → (Bool → Option Out) → Option Out) (Gfdb_Table_find : Int → Int → Int → MapL → Bool → Nat → (Nat → Nat → PV) → (Int → Bool → Int → MapL → Bool → Nat → (Nat → Nat → PV) → Option Out) → (Int → Int → MapL → Bool → Nat → (Nat → Nat → PV) → Option Out) → Option Out) (Gslices_MinFunc_fdb_Entry_c79_L0 : Bool → Nat → (Nat → Nat → PV) → Int → Int → Int → Int → (Bool → Nat → (Nat → Nat → PV) → Int → Int → Int → Int → Option Out) → Option Out) (Gslices_Delete_fdb_Entry : Int → Int → Bool → Nat → (Nat → Nat → PV) → (Bool → Nat → (Nat → Nat → PV) → Option Out) → (Bool → Nat → (Nat → Nat → PV) → Option Out) → Option Out) : Hooks := [(78, [(0, hookG [0, 1, 4, 5, 6] [] (bkOf [(slices_MinFunc_fdb_Entry_c79_L0_p, fun h k => Gslices_MinFunc_fdb_Entry_c79_L0 (gB h 0) (gN h 1) (gF h 2) (gI h 3) (gI h 4) (gI h 5) (gI h 6) (fun r0 r1 r2 r3 r4 r5 r6 => k .normal (slices_MinFunc_fdb_Entry_c79_L0_x0 r0 r1 r2 r3 r4 r5 r6)))]))])]
theorem fdb_Table_Learn_eq (Gmac_Group : Int → (Bool → Option Out) → Option Out) (Gfdb_Table_find : Int → Int → Int → MapL → Bool → Nat → (Nat → Nat → PV) → (Int → Bool → Int → MapL → Bool → Nat → (Nat → Nat → PV) → Option Out) → (Int → Int → MapL → Bool → Nat → (Nat → Nat → PV) → Option Out) → Option Out) (Gslices_MinFunc_fdb_Entry_c79_L0 : Bool → Nat → (Nat → Nat → PV) → Int → Int → Int → Int → (Bool → Nat → (Nat → Nat → PV) → Int → Int → Int → Int → Option Out) → Option Out) (Gslices_Delete_fdb_Entry : Int → Int → Bool → Nat → (Nat → Nat → PV) → (Bool → Nat → (Nat → Nat → PV) → Option Out) → (Bool → Nat → (Nat → Nat → PV) → Option Out) → Option Out) (a_1 : Int) (a_2 : Int) (a_3 : Int) (a_4 : Int) (a_5 : MapL) (a_6 : Bool) (a_7 : Nat) (a_8 : Nat → Nat → PV) (k : FK) : runS tt (has eql) Try.prog.funcs 18446744073709551616 (fdb_Table_Learn_S Gmac_Group Gfdb_Table_find Gslices_MinFunc_fdb_Entry_c79_L0 Gslices_Delete_fdb_Entry) (fdb_Table_Learn_B Gmac_Group Gfdb_Table_find Gslices_MinFunc_fdb_Entry_c79_L0 Gslices_Delete_fdb_Entry) opts 40 40 [.v (.c (.ptr 0 0)), .v (.c (.pv (.val (.int .u64 a_1)))), .v (.c (.pv (.val (.int .i64 a_2)))), .v (.c (.pv (.val (.int .i64 a_3))))] [.cells false [.pv (.val (.int .i64 a_4)), .mp 1, .own 2], .mapo [.int .i64 0, .int .u64 0] true (.int .i64 .nil) 1 false a_5, .parr false a_6 (.int .u64 (.int .i64 (.int .i64 (.int .i64 .nil)))) 4 a_7 (a_8)] k = fdb_Table_Learn_T Gmac_Group Gfdb_Table_find Gslices_MinFunc_fdb_Entry_c79_L0 Gslices_Delete_fdb_Entry a_1 a_2 a_3 a_4 a_5 a_6 a_7 a_8 (fun r0 r1 r2 r3 r4 => k (.v (.c (.pv (.val (.bool false))))) [.cells false [.pv (.val (.int .i64 r0)), .mp 1, .own 2], .mapo [.int .i64 0, .int .u64 0] true (.int .i64 .nil) 1 false r1, .parr false r2 (.int .u64 (.int .i64 (.int .i64 (.int .i64 .nil)))) 4 r3 (r4)]) (fun r0 r1 r2 r3 r4 => k (.v (.c (.pv (.val (.bool true))))) [.cells false [.pv (.val (.int .i64 r0)), .mp 1, .own 2], .mapo [.int .i64 0, .int .u64 0] true (.int .i64 .nil) 1 false r1, .parr false r2 (.int .u64 (.int .i64 (.int .i64 (.int .i64 .nil)))) 4 r3 (r4)]) (fun r0 r1 r2 r3 => k (.v (.c (.pv (.val (.bool true))))) [.cells false [.pv (.val (.int .i64 r0)), .mp 1, .own 3], .mapo [.int .i64 0, .int .u64 0] true (.int .i64 .nil) 1 false r1, .dead, .parr false false (.int .u64 (.int .i64 (.int .i64 (.int .i64 .nil)))) 4 r2 (r3)]) := by kernel_rfl
def fdb_Table_Learn_p : PAr := ⟨[.v (.c (.ptr 0 0)), .v (.c (.pv (.int .u64 .h))), .v (.c (.pv (.int .i64 .h))), .v (.c (.pv (.int .i64 .h)))], [.cells (.l false) [.pv (.int .i64 .h), .mp 1, .own 2], .mapo [.int .i64 0, .int .u64 0] true (.int .i64 .nil) 1 false, .parr (.l false) .h (.int .u64 (.int .i64 (.int .i64 (.int .i64 .nil)))) 4 .h]⟩
def fdb_Table_Learn_F (h : List Hole) (k : FK) : Option Out := fdb_Table_Learn (gI h 0) (gI h 1) (gI h 2) (gI h 3) (gM h 4) (gB h 5) (gN h 6) (gF h 7) (fun r0 r1 r2 r3 r4 => k (.v (.c (.pv (.val (.bool false))))) [.cells false [.pv (.val (.int .i64 r0)), .mp 1, .own 2], .mapo [.int .i64 0, .int .u64 0] true (.int .i64 .nil) 1 false r1, .parr false r2 (.int .u64 (.int .i64 (.int .i64 (.int .i64 .nil)))) 4 r3 (r4)]) (fun r0 r1 r2 r3 r4 => k (.v (.c (.pv (.val (.bool true))))) [.cells false [.pv (.val (.int .i64 r0)), .mp 1, .own 2], .mapo [.int .i64 0, .int .u64 0] true (.int .i64 .nil) 1 false r1, .parr false r2 (.int .u64 (.int .i64 (.int .i64 (.int .i64 .nil)))) 4 r3 (r4)]) (fun r0 r1 r2 r3 => k (.v (.c (.pv (.val (.bool true))))) [.cells false [.pv (.val (.int .i64 r0)), .mp 1, .own 3], .mapo [.int .i64 0, .int .u64 0] true (.int .i64 .nil) 1 false r1, .dead, .parr false false (.int .u64 (.int .i64 (.int .i64 (.int .i64 .nil)))) 4 r2 (r3)])
theorem fdb_Table_Learn_at (h : List Hole) : CallAt Try.prog 40 (arFill fdb_Table_Learn_p h).1 (arFill fdb_Table_Learn_p h).2 (fdb_Table_Learn_F h) := by
  have e : arFill fdb_Table_Learn_p h = ([.v (.c (.ptr 0 0)), .v (.c (.pv (.val (.int .u64 (gI h 0))))), .v (.c (.pv (.val (.int .i64 (gI h 1))))), .v (.c (.pv (.val (.int .i64 (gI h 2)))))], [.cells false [.pv (.val (.int .i64 (gI h 3))), .mp 1, .own 2], .mapo [.int .i64 0, .int .u64 0] true (.int .i64 .nil) 1 false (gM h 4), .parr false (gB h 5) (.int .u64 (.int .i64 (.int .i64 (.int .i64 .nil)))) 4 (gN h 6) ((gF h 7))]) := by kernel_rfl
  rw [e]; exact callAt_of (runS_ok ttOk eqOk mixed (names_ok namesOk) (S := fdb_Table_Learn_S mac_Group fdb_Table_find slices_MinFunc_fdb_Entry_c79_L0 slices_Delete_fdb_Entry) (sums_cons yes38_ok (sums_cons insert_ok (sums_cons stat_ok (sums_cons (smOf_ok (alts_cons mac_Group_at alts_nil)) (sums_cons (smOf_ok (alts_cons fdb_Table_find_at alts_nil)) (sums_cons (smOf_ok (alts_cons slices_Delete_fdb_Entry_at alts_nil)) (sums_nil))))))) (B := fdb_Table_Learn_B mac_Group fdb_Table_find slices_MinFunc_fdb_Entry_c79_L0 slices_Delete_fdb_Entry) (hooks_add (fn := Try.f78) (by kernel_rfl) (by kernel_rfl) (blk_cons (bkOf_ok (blts_cons slices_MinFunc_fdb_Entry_c79_L0_at blts_nil)) blk_nil) (hooks_nil)) opts 40) fun k => fdb_Table_Learn_eq mac_Group fdb_Table_find slices_MinFunc_fdb_Entry_c79_L0 slices_Delete_fdb_Entry _ _ _ _ _ _ _ _ k
/- (*weirgate/fdb.Table).Look -/
def fdb_Table_Look_T {α : Type} (Gfdb_Table_find : Int → Int → Int → MapL → Bool → Nat → (Nat → Nat → PV) → (Int → Bool → Int → MapL → Bool → Nat → (Nat → Nat → PV) → Option α) → (Int → Int → MapL → Bool → Nat → (Nat → Nat → PV) → Option α) → Option α) (a_1 : Int) (a_2 : Int) (a_3 : Int) (a_4 : MapL) (a_5 : Bool) (a_6 : Nat) (a_7 : Nat → Nat → PV) (k0 : Int → Int → MapL → Bool → Nat → (Nat → Nat → PV) → Option α) (k1 : Int → MapL → Bool → Nat → (Nat → Nat → PV) → Option α) : Option α := bif mhas a_4 [.val (.int .i64 a_2), .val (.int .u64 a_1)] then
  k0 (numOf (mcell a_4 [.val (.int .i64 a_2), .val (.int .u64 a_1)] 0)) a_3 a_4 a_5 a_6 a_7
 else Gfdb_Table_find a_2 a_1 a_3 a_4 a_5 a_6 a_7
  (fun r_8 r_9 r_10 r_11 r_12 r_13 r_14 => bif r_9 then
   bif inb r_8 r_13 then
    k0 (numOf (r_14 r_8.toNat 2)) r_10 r_11 r_12 r_13 r_14
   else none /- test -/
  else k1 r_10 r_11 r_12 r_13 r_14)
  (fun r_8 r_9 r_10 r_11 r_12 r_13 => k1 r_9 r_10 r_11 r_12 r_13)
def fdb_Table_Look {α : Type} (a_1 : Int) (a_2 : Int) (a_3 : Int) (a_4 : MapL) (a_5 : Bool) (a_6 : Nat) (a_7 : Nat → Nat → PV) (k0 : Int → Int → MapL → Bool → Nat → (Nat → Nat → PV) → Option α) (k1 : Int → MapL → Bool → Nat → (Nat → Nat → PV) → Option α) : Option α := fdb_Table_Look_T fdb_Table_find a_1 a_2 a_3 a_4 a_5 a_6 a_7 k0 k1
def fdb_Table_Look_S (Gfdb_Table_find : Int → Int → Int → MapL → Bool → Nat → (Nat → Nat → PV) → (Int → Bool → Int → MapL → Bool → Nat → (Nat → Nat → PV) → Option Out) → (Int → Int → MapL → Bool → Nat → (Nat → Nat → PV) → Option Out) → Option Out) : List (Nat × Sm) := [(38, yes), (85, (insSm 4 32)), (44, statSm), (77, smOf [(fdb_Table_find_p, fun h k => Gfdb_Table_find (gI h 0) (gI h 1) (gI h 2) (gM h 3) (gB h 4) (gN h 5) (gF h 6) (fun r0 r1 r2 r3 r4 r5 r6 => k (.tup [.c (.pv (.val (.int .i64 r0))), .c (.pv (.val (.bool r1)))]) [.cells false [.pv (.val (.int .i64 r2)), .mp 1, .own 2], .mapo [.int .i64 0, .int .u64 0] true (.int .i64 .nil) 1 false r3, .parr false r4 (.int .u64 (.int .i64 (.int .i64 (.int .i64 .nil)))) 4 r5 (r6)]) (fun r0 r1 r2 r3 r4 r5 => k (.tup [.c (.pv (.val (.int .i64 r0))), .c (.pv (.val (.bool false)))]) [.cells false [.pv (.val (.int .i64 r1)), .mp 1, .own 2], .mapo [.int .i64 0, .int .u64 0] true (.int .i64 .nil) 1 false r2, .parr false r3 (.int .u64 (.int .i64 (.int .i64 (.int .i64 .nil)))) 4 r4 (r5)]))])]
def fdb_Table_Look_B (Gfdb_Table_find : Int → Int → Int → MapL → Bool → Nat → (Nat → Nat → PV) → (Int → Bool → Int → MapL → Bool → Nat → (Nat → Nat → PV) → Option Out) → (Int → Int → MapL → Bool → Nat → (Nat → Nat → PV) → Option Out) → Option Out) : Hooks := []
theorem fdb_Table_Look_eq (Gfdb_Table_find : Int → Int → Int → MapL → Bool → Nat → (Nat → Nat → PV) → (Int → Bool → Int → MapL → Bool → Nat → (Nat → Nat → PV) → Option Out) → (Int → Int → MapL → Bool → Nat → (Nat → Nat → PV) → Option Out) → Option Out) (a_1 : Int) (a_2 : Int) (a_3 : Int) (a_4 : MapL) (a_5 : Bool) (a_6 : Nat) (a_7 : Nat → Nat → PV) (k : FK) : runS tt (has eql) Try.prog.funcs 18446744073709551616 (fdb_Table_Look_S Gfdb_Table_find) (fdb_Table_Look_B Gfdb_Table_find) opts 40 43 [.v (.c (.ptr 0 0)), .v (.c (.pv (.val (.int .u64 a_1)))), .v (.c (.pv (.val (.int .i64 a_2))))] [.cells false [.pv (.val (.int .i64 a_3)), .mp 1, .own 2], .mapo [.int .i64 0, .int .u64 0] true (.int .i64 .nil) 1 false a_4, .parr false a_5 (.int .u64 (.int .i64 (.int .i64 (.int .i64 .nil)))) 4 a_6 (a_7)] k = fdb_Table_Look_T Gfdb_Table_find a_1 a_2 a_3 a_4 a_5 a_6 a_7 (fun r0 r1 r2 r3 r4 r5 => k (.tup [.c (.pv (.val (.int .i64 r0))), .c (.pv (.val (.bool true)))]) [.cells false [.pv (.val (.int .i64 r1)), .mp 1, .own 2], .mapo [.int .i64 0, .int .u64 0] true (.int .i64 .nil) 1 false r2, .parr false r3 (.int .u64 (.int .i64 (.int .i64 (.int .i64 .nil)))) 4 r4 (r5)]) (fun r0 r1 r2 r3 r4 => k (.tup [.c (.pv (.val (.int .i64 0))), .c (.pv (.val (.bool false)))]) [.cells false [.pv (.val (.int .i64 r0)), .mp 1, .own 2], .mapo [.int .i64 0, .int .u64 0] true (.int .i64 .nil) 1 false r1, .parr false r2 (.int .u64 (.int .i64 (.int .i64 (.int .i64 .nil)))) 4 r3 (r4)]) := by kernel_rfl
def fdb_Table_Look_p : PAr := ⟨[.v (.c (.ptr 0 0)), .v (.c (.pv (.int .u64 .h))), .v (.c (.pv (.int .i64 .h)))], [.cells (.l false) [.pv (.int .i64 .h), .mp 1, .own 2], .mapo [.int .i64 0, .int .u64 0] true (.int .i64 .nil) 1 false, .parr (.l false) .h (.int .u64 (.int .i64 (.int .i64 (.int .i64 .nil)))) 4 .h]⟩
def fdb_Table_Look_F (h : List Hole) (k : FK) : Option Out := fdb_Table_Look (gI h 0) (gI h 1) (gI h 2) (gM h 3) (gB h 4) (gN h 5) (gF h 6) (fun r0 r1 r2 r3 r4 r5 => k (.tup [.c (.pv (.val (.int .i64 r0))), .c (.pv (.val (.bool true)))]) [.cells false [.pv (.val (.int .i64 r1)), .mp 1, .own 2], .mapo [.int .i64 0, .int .u64 0] true (.int .i64 .nil) 1 false r2, .parr false r3 (.int .u64 (.int .i64 (.int .i64 (.int .i64 .nil)))) 4 r4 (r5)]) (fun r0 r1 r2 r3 r4 => k (.tup [.c (.pv (.val (.int .i64 0))), .c (.pv (.val (.bool false)))]) [.cells false [.pv (.val (.int .i64 r0)), .mp 1, .own 2], .mapo [.int .i64 0, .int .u64 0] true (.int .i64 .nil) 1 false r1, .parr false r2 (.int .u64 (.int .i64 (.int .i64 (.int .i64 .nil)))) 4 r3 (r4)])
theorem fdb_Table_Look_at (h : List Hole) : CallAt Try.prog 43 (arFill fdb_Table_Look_p h).1 (arFill fdb_Table_Look_p h).2 (fdb_Table_Look_F h) := by
  have e : arFill fdb_Table_Look_p h = ([.v (.c (.ptr 0 0)), .v (.c (.pv (.val (.int .u64 (gI h 0))))), .v (.c (.pv (.val (.int .i64 (gI h 1)))))], [.cells false [.pv (.val (.int .i64 (gI h 2))), .mp 1, .own 2], .mapo [.int .i64 0, .int .u64 0] true (.int .i64 .nil) 1 false (gM h 3), .parr false (gB h 4) (.int .u64 (.int .i64 (.int .i64 (.int .i64 .nil)))) 4 (gN h 5) ((gF h 6))]) := by kernel_rfl
  rw [e]; exact callAt_of (runS_ok ttOk eqOk mixed (names_ok namesOk) (S := fdb_Table_Look_S fdb_Table_find) (sums_cons yes38_ok (sums_cons insert_ok (sums_cons stat_ok (sums_cons (smOf_ok (alts_cons fdb_Table_find_at alts_nil)) (sums_nil))))) (B := fdb_Table_Look_B fdb_Table_find) (hooks_nil) opts 40) fun k => fdb_Table_Look_eq fdb_Table_find _ _ _ _ _ _ _ k
def e15 (x0 : Int) (x1 : Int) : Bool := ((IntKind.i64.wrap (1 + ((IntKind.i64.wrap x0).tmod 9))) == (IntKind.i64.wrap (1 + ((IntKind.i64.wrap x1).tmod 9))))
/- slices.Clone[[]weirgate/fdb.Entry,weirgate/fdb.Entry] -/
def slices_Clone_fdb_Entry_T {α : Type}  (a_1 : Bool) (a_2 : Nat) (a_3 : Nat → Nat → PV) (k0 : Bool → Nat → (Nat → Nat → PV) → Bool → Nat → (Nat → Nat → PV) → Option α) : Option α := bif a_1 then
  k0 a_1 a_2 a_3 true 0 (fun _ _ => .val undef)
 else bif Nat.ble ((0 + a_2) * 32) bound then
  k0 a_1 a_2 a_3 false (0 + a_2) (catf 0 (rowOf 4 []) (a_3))
 else none /- test -/
def slices_Clone_fdb_Entry {α : Type} (a_1 : Bool) (a_2 : Nat) (a_3 : Nat → Nat → PV) (k0 : Bool → Nat → (Nat → Nat → PV) → Bool → Nat → (Nat → Nat → PV) → Option α) : Option α := slices_Clone_fdb_Entry_T  a_1 a_2 a_3 k0
def slices_Clone_fdb_Entry_S  : List (Nat × Sm) := [(38, yes), (85, (insSm 4 32)), (44, statSm)]
def slices_Clone_fdb_Entry_B  : Hooks := []
theorem slices_Clone_fdb_Entry_eq  (a_1 : Bool) (a_2 : Nat) (a_3 : Nat → Nat → PV) (k : FK) : runS tt (has eql) Try.prog.funcs 18446744073709551616 (slices_Clone_fdb_Entry_S ) (slices_Clone_fdb_Entry_B ) opts 40 88 [.v (.c (.own 0))] [.parr false a_1 (.int .u64 (.int .i64 (.int .i64 (.int .i64 .nil)))) 4 a_2 (a_3)] k = slices_Clone_fdb_Entry_T  a_1 a_2 a_3 (fun r0 r1 r2 r3 r4 r5 => k (.v (.c (.own 1))) [.parr false r0 (.int .u64 (.int .i64 (.int .i64 (.int .i64 .nil)))) 4 r1 (r2), .parr false r3 (.int .u64 (.int .i64 (.int .i64 (.int .i64 .nil)))) 4 r4 (r5)]) := by kernel_rfl
def slices_Clone_fdb_Entry_p : PAr := ⟨[.v (.c (.own 0))], [.parr (.l false) .h (.int .u64 (.int .i64 (.int .i64 (.int .i64 .nil)))) 4 .h]⟩
def slices_Clone_fdb_Entry_F (h : List Hole) (k : FK) : Option Out := slices_Clone_fdb_Entry (gB h 0) (gN h 1) (gF h 2) (fun r0 r1 r2 r3 r4 r5 => k (.v (.c (.own 1))) [.parr false r0 (.int .u64 (.int .i64 (.int .i64 (.int .i64 .nil)))) 4 r1 (r2), .parr false r3 (.int .u64 (.int .i64 (.int .i64 (.int .i64 .nil)))) 4 r4 (r5)])
theorem slices_Clone_fdb_Entry_at (h : List Hole) : CallAt Try.prog 88 (arFill slices_Clone_fdb_Entry_p h).1 (arFill slices_Clone_fdb_Entry_p h).2 (slices_Clone_fdb_Entry_F h) := by
  have e : arFill slices_Clone_fdb_Entry_p h = ([.v (.c (.own 0))], [.parr false (gB h 0) (.int .u64 (.int .i64 (.int .i64 (.int .i64 .nil)))) 4 (gN h 1) ((gF h 2))]) := by kernel_rfl
  rw [e]; exact callAt_of (runS_ok ttOk eqOk mixed (names_ok namesOk) (S := slices_Clone_fdb_Entry_S ) (sums_cons yes38_ok (sums_cons insert_ok (sums_cons stat_ok (sums_nil)))) (B := slices_Clone_fdb_Entry_B ) (hooks_nil) opts 40) fun k => slices_Clone_fdb_Entry_eq  _ _ _ k
/- weirgate/weirgatelaw18.FdbMoves -/
def law18_FdbMoves_T {α : Type} (Gfdb_Table_Learn : Int → Int → Int → Int → MapL → Bool → Nat → (Nat → Nat → PV) → (Int → MapL → Bool → Nat → (Nat → Nat → PV) → Option α) → (Int → MapL → Bool → Nat → (Nat → Nat → PV) → Option α) → (Int → MapL → Nat → (Nat → Nat → PV) → Option α) → Option α) (Gfdb_Table_Look : Int → Int → Int → MapL → Bool → Nat → (Nat → Nat → PV) → (Int → Int → MapL → Bool → Nat → (Nat → Nat → PV) → Option α) → (Int → MapL → Bool → Nat → (Nat → Nat → PV) → Option α) → Option α) (Gslices_Clone_fdb_Entry : Bool → Nat → (Nat → Nat → PV) → (Bool → Nat → (Nat → Nat → PV) → Bool → Nat → (Nat → Nat → PV) → Option α) → Option α) (a_1 : Int) (a_2 : Int) (a_3 : Int) (a_4 : Int) (a_5 : Int) (k0 : Option α) (k1 : Option α) : Option α := Gfdb_Table_Learn (IntKind.u64.wrap ((IntKind.u64.wrap a_1) + 1)) (IntKind.i64.wrap (1 + ((IntKind.i64.wrap a_4).tmod 9))) ((IntKind.i64.wrap a_2).tmod 8) 0 ([]) true 0 (fun _ _ => .val undef)
  (fun r_6 r_7 r_8 r_9 r_10 => k0)
  (fun r_6 r_7 r_8 r_9 r_10 => Gfdb_Table_Learn (IntKind.u64.wrap ((IntKind.u64.wrap a_1) + 1)) (IntKind.i64.wrap (1 + ((IntKind.i64.wrap a_5).tmod 9))) ((IntKind.i64.wrap a_3).tmod 8) r_6 r_7 r_8 r_9 r_10
   (fun r_11 r_12 r_13 r_14 r_15 => k0)
   (fun r_11 r_12 r_13 r_14 r_15 => Gfdb_Table_Look (IntKind.u64.wrap ((IntKind.u64.wrap a_1) + 1)) (IntKind.i64.wrap (1 + ((IntKind.i64.wrap a_4).tmod 9))) r_11 r_12 r_13 r_14 r_15
    (fun r_16 r_17 r_18 r_19 r_20 r_21 => Gfdb_Table_Look (IntKind.u64.wrap ((IntKind.u64.wrap a_1) + 1)) (IntKind.i64.wrap (1 + ((IntKind.i64.wrap a_5).tmod 9))) r_17 r_18 r_19 r_20 r_21
     (fun r_22 r_23 r_24 r_25 r_26 r_27 => bif e15 a_4 a_5 then
      bif e15 a_4 a_5 then
       bif (r_16 == ((IntKind.i64.wrap a_3).tmod 8)) then
        bif (r_22 == ((IntKind.i64.wrap a_3).tmod 8)) then
         Gslices_Clone_fdb_Entry r_25 r_26 r_27
          (fun r_28 r_29 r_30 r_31 r_32 r_33 => bif ((r_32 : Int) == 1) then
           k1
          else k0)
        else k0
       else k0
      else bif (r_16 == ((IntKind.i64.wrap a_3).tmod 8)) then
       bif (r_22 == ((IntKind.i64.wrap a_3).tmod 8)) then
        Gslices_Clone_fdb_Entry r_25 r_26 r_27
         (fun r_28 r_29 r_30 r_31 r_32 r_33 => bif ((r_32 : Int) == 2) then
          k1
         else k0)
       else k0
      else k0
     else bif e15 a_4 a_5 then
      bif (r_16 == ((IntKind.i64.wrap a_2).tmod 8)) then
       bif (r_22 == ((IntKind.i64.wrap a_3).tmod 8)) then
        Gslices_Clone_fdb_Entry r_25 r_26 r_27
         (fun r_28 r_29 r_30 r_31 r_32 r_33 => bif ((r_32 : Int) == 1) then
          k1
         else k0)
       else k0
      else k0
     else bif (r_16 == ((IntKind.i64.wrap a_2).tmod 8)) then
      bif (r_22 == ((IntKind.i64.wrap a_3).tmod 8)) then
       Gslices_Clone_fdb_Entry r_25 r_26 r_27
        (fun r_28 r_29 r_30 r_31 r_32 r_33 => bif ((r_32 : Int) == 2) then
         k1
        else k0)
      else k0
     else k0)
     (fun r_22 r_23 r_24 r_25 r_26 => bif e15 a_4 a_5 then
      bif e15 a_4 a_5 then
       k0
      else k0
     else bif e15 a_4 a_5 then
      k0
     else k0))
    (fun r_16 r_17 r_18 r_19 r_20 => Gfdb_Table_Look (IntKind.u64.wrap ((IntKind.u64.wrap a_1) + 1)) (IntKind.i64.wrap (1 + ((IntKind.i64.wrap a_5).tmod 9))) r_16 r_17 r_18 r_19 r_20
     (fun r_21 r_22 r_23 r_24 r_25 r_26 => bif e15 a_4 a_5 then
      bif e15 a_4 a_5 then
       k0
      else k0
     else bif e15 a_4 a_5 then
      k0
     else k0)
     (fun r_21 r_22 r_23 r_24 r_25 => bif e15 a_4 a_5 then
      bif e15 a_4 a_5 then
       k0
      else k0
     else bif e15 a_4 a_5 then
      k0
     else k0)))
   (fun r_11 r_12 r_13 r_14 => Gfdb_Table_Look (IntKind.u64.wrap ((IntKind.u64.wrap a_1) + 1)) (IntKind.i64.wrap (1 + ((IntKind.i64.wrap a_4).tmod 9))) r_11 r_12 false r_13 r_14
    (fun r_15 r_16 r_17 r_18 r_19 r_20 => Gfdb_Table_Look (IntKind.u64.wrap ((IntKind.u64.wrap a_1) + 1)) (IntKind.i64.wrap (1 + ((IntKind.i64.wrap a_5).tmod 9))) r_16 r_17 r_18 r_19 r_20
     (fun r_21 r_22 r_23 r_24 r_25 r_26 => bif e15 a_4 a_5 then
      bif e15 a_4 a_5 then
       bif (r_15 == ((IntKind.i64.wrap a_3).tmod 8)) then
        bif (r_21 == ((IntKind.i64.wrap a_3).tmod 8)) then
         Gslices_Clone_fdb_Entry r_24 r_25 r_26
          (fun r_27 r_28 r_29 r_30 r_31 r_32 => bif ((r_31 : Int) == 1) then
           k1
          else k0)
        else k0
       else k0
      else bif (r_15 == ((IntKind.i64.wrap a_3).tmod 8)) then
       bif (r_21 == ((IntKind.i64.wrap a_3).tmod 8)) then
        Gslices_Clone_fdb_Entry r_24 r_25 r_26
         (fun r_27 r_28 r_29 r_30 r_31 r_32 => bif ((r_31 : Int) == 2) then
          k1
         else k0)
       else k0
      else k0
     else bif e15 a_4 a_5 then
      bif (r_15 == ((IntKind.i64.wrap a_2).tmod 8)) then
       bif (r_21 == ((IntKind.i64.wrap a_3).tmod 8)) then
        Gslices_Clone_fdb_Entry r_24 r_25 r_26
         (fun r_27 r_28 r_29 r_30 r_31 r_32 => bif ((r_31 : Int) == 1) then
          k1
         else k0)
       else k0
      else k0
     else bif (r_15 == ((IntKind.i64.wrap a_2).tmod 8)) then
      bif (r_21 == ((IntKind.i64.wrap a_3).tmod 8)) then
       Gslices_Clone_fdb_Entry r_24 r_25 r_26
        (fun r_27 r_28 r_29 r_30 r_31 r_32 => bif ((r_31 : Int) == 2) then
         k1
        else k0)
      else k0
     else k0)
     (fun r_21 r_22 r_23 r_24 r_25 => bif e15 a_4 a_5 then
      bif e15 a_4 a_5 then
       k0
      else k0
     else bif e15 a_4 a_5 then
      k0
     else k0))
    (fun r_15 r_16 r_17 r_18 r_19 => Gfdb_Table_Look (IntKind.u64.wrap ((IntKind.u64.wrap a_1) + 1)) (IntKind.i64.wrap (1 + ((IntKind.i64.wrap a_5).tmod 9))) r_15 r_16 r_17 r_18 r_19
     (fun r_20 r_21 r_22 r_23 r_24 r_25 => bif e15 a_4 a_5 then
      bif e15 a_4 a_5 then
       k0
      else k0
     else bif e15 a_4 a_5 then
      k0
     else k0)
     (fun r_20 r_21 r_22 r_23 r_24 => bif e15 a_4 a_5 then
      bif e15 a_4 a_5 then
       k0
      else k0
     else bif e15 a_4 a_5 then
      k0
     else k0))))
  (fun r_6 r_7 r_8 r_9 => Gfdb_Table_Learn (IntKind.u64.wrap ((IntKind.u64.wrap a_1) + 1)) (IntKind.i64.wrap (1 + ((IntKind.i64.wrap a_5).tmod 9))) ((IntKind.i64.wrap a_3).tmod 8) r_6 r_7 false r_8 r_9
   (fun r_10 r_11 r_12 r_13 r_14 => k0)
   (fun r_10 r_11 r_12 r_13 r_14 => Gfdb_Table_Look (IntKind.u64.wrap ((IntKind.u64.wrap a_1) + 1)) (IntKind.i64.wrap (1 + ((IntKind.i64.wrap a_4).tmod 9))) r_10 r_11 r_12 r_13 r_14
    (fun r_15 r_16 r_17 r_18 r_19 r_20 => Gfdb_Table_Look (IntKind.u64.wrap ((IntKind.u64.wrap a_1) + 1)) (IntKind.i64.wrap (1 + ((IntKind.i64.wrap a_5).tmod 9))) r_16 r_17 r_18 r_19 r_20
     (fun r_21 r_22 r_23 r_24 r_25 r_26 => bif e15 a_4 a_5 then
      bif e15 a_4 a_5 then
       bif (r_15 == ((IntKind.i64.wrap a_3).tmod 8)) then
        bif (r_21 == ((IntKind.i64.wrap a_3).tmod 8)) then
         Gslices_Clone_fdb_Entry r_24 r_25 r_26
          (fun r_27 r_28 r_29 r_30 r_31 r_32 => bif ((r_31 : Int) == 1) then
           k1
          else k0)
        else k0
       else k0
      else bif (r_15 == ((IntKind.i64.wrap a_3).tmod 8)) then
       bif (r_21 == ((IntKind.i64.wrap a_3).tmod 8)) then
        Gslices_Clone_fdb_Entry r_24 r_25 r_26
         (fun r_27 r_28 r_29 r_30 r_31 r_32 => bif ((r_31 : Int) == 2) then
          k1
         else k0)
       else k0
      else k0
     else bif e15 a_4 a_5 then
      bif (r_15 == ((IntKind.i64.wrap a_2).tmod 8)) then
       bif (r_21 == ((IntKind.i64.wrap a_3).tmod 8)) then
        Gslices_Clone_fdb_Entry r_24 r_25 r_26
         (fun r_27 r_28 r_29 r_30 r_31 r_32 => bif ((r_31 : Int) == 1) then
          k1
         else k0)
       else k0
      else k0
     else bif (r_15 == ((IntKind.i64.wrap a_2).tmod 8)) then
      bif (r_21 == ((IntKind.i64.wrap a_3).tmod 8)) then
       Gslices_Clone_fdb_Entry r_24 r_25 r_26
        (fun r_27 r_28 r_29 r_30 r_31 r_32 => bif ((r_31 : Int) == 2) then
         k1
        else k0)
      else k0
     else k0)
     (fun r_21 r_22 r_23 r_24 r_25 => bif e15 a_4 a_5 then
      bif e15 a_4 a_5 then
       k0
      else k0
     else bif e15 a_4 a_5 then
      k0
     else k0))
    (fun r_15 r_16 r_17 r_18 r_19 => Gfdb_Table_Look (IntKind.u64.wrap ((IntKind.u64.wrap a_1) + 1)) (IntKind.i64.wrap (1 + ((IntKind.i64.wrap a_5).tmod 9))) r_15 r_16 r_17 r_18 r_19
     (fun r_20 r_21 r_22 r_23 r_24 r_25 => bif e15 a_4 a_5 then
      bif e15 a_4 a_5 then
       k0
      else k0
     else bif e15 a_4 a_5 then
      k0
     else k0)
     (fun r_20 r_21 r_22 r_23 r_24 => bif e15 a_4 a_5 then
      bif e15 a_4 a_5 then
       k0
      else k0
     else bif e15 a_4 a_5 then
      k0
     else k0)))
   (fun r_10 r_11 r_12 r_13 => Gfdb_Table_Look (IntKind.u64.wrap ((IntKind.u64.wrap a_1) + 1)) (IntKind.i64.wrap (1 + ((IntKind.i64.wrap a_4).tmod 9))) r_10 r_11 false r_12 r_13
    (fun r_14 r_15 r_16 r_17 r_18 r_19 => Gfdb_Table_Look (IntKind.u64.wrap ((IntKind.u64.wrap a_1) + 1)) (IntKind.i64.wrap (1 + ((IntKind.i64.wrap a_5).tmod 9))) r_15 r_16 r_17 r_18 r_19
     (fun r_20 r_21 r_22 r_23 r_24 r_25 => bif e15 a_4 a_5 then
      bif e15 a_4 a_5 then
       bif (r_14 == ((IntKind.i64.wrap a_3).tmod 8)) then
        bif (r_20 == ((IntKind.i64.wrap a_3).tmod 8)) then
         Gslices_Clone_fdb_Entry r_23 r_24 r_25
          (fun r_26 r_27 r_28 r_29 r_30 r_31 => bif ((r_30 : Int) == 1) then
           k1
          else k0)
        else k0
       else k0
      else bif (r_14 == ((IntKind.i64.wrap a_3).tmod 8)) then
       bif (r_20 == ((IntKind.i64.wrap a_3).tmod 8)) then
        Gslices_Clone_fdb_Entry r_23 r_24 r_25
         (fun r_26 r_27 r_28 r_29 r_30 r_31 => bif ((r_30 : Int) == 2) then
          k1
         else k0)
       else k0
      else k0
     else bif e15 a_4 a_5 then
      bif (r_14 == ((IntKind.i64.wrap a_2).tmod 8)) then
       bif (r_20 == ((IntKind.i64.wrap a_3).tmod 8)) then
        Gslices_Clone_fdb_Entry r_23 r_24 r_25
         (fun r_26 r_27 r_28 r_29 r_30 r_31 => bif ((r_30 : Int) == 1) then
          k1
         else k0)
       else k0
      else k0
     else bif (r_14 == ((IntKind.i64.wrap a_2).tmod 8)) then
      bif (r_20 == ((IntKind.i64.wrap a_3).tmod 8)) then
       Gslices_Clone_fdb_Entry r_23 r_24 r_25
        (fun r_26 r_27 r_28 r_29 r_30 r_31 => bif ((r_30 : Int) == 2) then
         k1
        else k0)
      else k0
     else k0)
     (fun r_20 r_21 r_22 r_23 r_24 => bif e15 a_4 a_5 then
      bif e15 a_4 a_5 then
       k0
      else k0
     else bif e15 a_4 a_5 then
      k0
     else k0))
    (fun r_14 r_15 r_16 r_17 r_18 => Gfdb_Table_Look (IntKind.u64.wrap ((IntKind.u64.wrap a_1) + 1)) (IntKind.i64.wrap (1 + ((IntKind.i64.wrap a_5).tmod 9))) r_14 r_15 r_16 r_17 r_18
     (fun r_19 r_20 r_21 r_22 r_23 r_24 => bif e15 a_4 a_5 then
      bif e15 a_4 a_5 then
       k0
      else k0
     else bif e15 a_4 a_5 then
      k0
     else k0)
     (fun r_19 r_20 r_21 r_22 r_23 => bif e15 a_4 a_5 then
      bif e15 a_4 a_5 then
       k0
      else k0
     else bif e15 a_4 a_5 then
      k0
     else k0))))
def law18_FdbMoves {α : Type} (a_1 : Int) (a_2 : Int) (a_3 : Int) (a_4 : Int) (a_5 : Int) (k0 : Option α) (k1 : Option α) : Option α := law18_FdbMoves_T fdb_Table_Learn fdb_Table_Look slices_Clone_fdb_Entry a_1 a_2 a_3 a_4 a_5 k0 k1
def law18_FdbMoves_S (Gfdb_Table_Learn : Int → Int → Int → Int → MapL → Bool → Nat → (Nat → Nat → PV) → (Int → MapL → Bool → Nat → (Nat → Nat → PV) → Option Out) → (Int → MapL → Bool → Nat → (Nat → Nat → PV) → Option Out) → (Int → MapL → Nat → (Nat → Nat → PV) → Option Out) → Option Out) (Gfdb_Table_Look : Int → Int → Int → MapL → Bool → Nat → (Nat → Nat → PV) → (Int → Int → MapL → Bool → Nat → (Nat → Nat → PV) → Option Out) → (Int → MapL → Bool → Nat → (Nat → Nat → PV) → Option Out) → Option Out) (Gslices_Clone_fdb_Entry : Bool → Nat → (Nat → Nat → PV) → (Bool → Nat → (Nat → Nat → PV) → Bool → Nat → (Nat → Nat → PV) → Option Out) → Option Out) : List (Nat × Sm) := [(38, yes), (85, (insSm 4 32)), (44, statSm), (40, smOf [(fdb_Table_Learn_p, fun h k => Gfdb_Table_Learn (gI h 0) (gI h 1) (gI h 2) (gI h 3) (gM h 4) (gB h 5) (gN h 6) (gF h 7) (fun r0 r1 r2 r3 r4 => k (.v (.c (.pv (.val (.bool false))))) [.cells false [.pv (.val (.int .i64 r0)), .mp 1, .own 2], .mapo [.int .i64 0, .int .u64 0] true (.int .i64 .nil) 1 false r1, .parr false r2 (.int .u64 (.int .i64 (.int .i64 (.int .i64 .nil)))) 4 r3 (r4)]) (fun r0 r1 r2 r3 r4 => k (.v (.c (.pv (.val (.bool true))))) [.cells false [.pv (.val (.int .i64 r0)), .mp 1, .own 2], .mapo [.int .i64 0, .int .u64 0] true (.int .i64 .nil) 1 false r1, .parr false r2 (.int .u64 (.int .i64 (.int .i64 (.int .i64 .nil)))) 4 r3 (r4)]) (fun r0 r1 r2 r3 => k (.v (.c (.pv (.val (.bool true))))) [.cells false [.pv (.val (.int .i64 r0)), .mp 1, .own 3], .mapo [.int .i64 0, .int .u64 0] true (.int .i64 .nil) 1 false r1, .dead, .parr false false (.int .u64 (.int .i64 (.int .i64 (.int .i64 .nil)))) 4 r2 (r3)]))]), (43, smOf [(fdb_Table_Look_p, fun h k => Gfdb_Table_Look (gI h 0) (gI h 1) (gI h 2) (gM h 3) (gB h 4) (gN h 5) (gF h 6) (fun r0 r1 r2 r3 r4 r5 => k (.tup [.c (.pv (.val (.int .i64 r0))), .c (.pv (.val (.bool true)))]) [.cells false [.pv (.val (.int .i64 r1)), .mp 1, .own 2], .mapo [.int .i64 0, .int .u64 0] true (.int .i64 .nil) 1 false r2, .parr false r3 (.int .u64 (.int .i64 (.int .i64 (.int .i64 .nil)))) 4 r4 (r5)]) (fun r0 r1 r2 r3 r4 => k (.tup [.c (.pv (.val (.int .i64 0))), .c (.pv (.val (.bool false)))]) [.cells false [.pv (.val (.int .i64 r0)), .mp 1, .own 2], .mapo [.int .i64 0, .int .u64 0] true (.int .i64 .nil) 1 false r1, .parr false r2 (.int .u64 (.int .i64 (.int .i64 (.int .i64 .nil)))) 4 r3 (r4)]))]), (88, smOf [(slices_Clone_fdb_Entry_p, fun h k => Gslices_Clone_fdb_Entry (gB h 0) (gN h 1) (gF h 2) (fun r0 r1 r2 r3 r4 r5 => k (.v (.c (.own 1))) [.parr false r0 (.int .u64 (.int .i64 (.int .i64 (.int .i64 .nil)))) 4 r1 (r2), .parr false r3 (.int .u64 (.int .i64 (.int .i64 (.int .i64 .nil)))) 4 r4 (r5)]))])]
def law18_FdbMoves_B (Gfdb_Table_Learn : Int → Int → Int → Int → MapL → Bool → Nat → (Nat → Nat → PV) → (Int → MapL → Bool → Nat → (Nat → Nat → PV) → Option Out) → (Int → MapL → Bool → Nat → (Nat → Nat → PV) → Option Out) → (Int → MapL → Nat → (Nat → Nat → PV) → Option Out) → Option Out) (Gfdb_Table_Look : Int → Int → Int → MapL → Bool → Nat → (Nat → Nat → PV) → (Int → Int → MapL → Bool → Nat → (Nat → Nat → PV) → Option Out) → (Int → MapL → Bool → Nat → (Nat → Nat → PV) → Option Out) → Option Out) (Gslices_Clone_fdb_Entry : Bool → Nat → (Nat → Nat → PV) → (Bool → Nat → (Nat → Nat → PV) → Bool → Nat → (Nat → Nat → PV) → Option Out) → Option Out) : Hooks := []
theorem law18_FdbMoves_eq (Gfdb_Table_Learn : Int → Int → Int → Int → MapL → Bool → Nat → (Nat → Nat → PV) → (Int → MapL → Bool → Nat → (Nat → Nat → PV) → Option Out) → (Int → MapL → Bool → Nat → (Nat → Nat → PV) → Option Out) → (Int → MapL → Nat → (Nat → Nat → PV) → Option Out) → Option Out) (Gfdb_Table_Look : Int → Int → Int → MapL → Bool → Nat → (Nat → Nat → PV) → (Int → Int → MapL → Bool → Nat → (Nat → Nat → PV) → Option Out) → (Int → MapL → Bool → Nat → (Nat → Nat → PV) → Option Out) → Option Out) (Gslices_Clone_fdb_Entry : Bool → Nat → (Nat → Nat → PV) → (Bool → Nat → (Nat → Nat → PV) → Bool → Nat → (Nat → Nat → PV) → Option Out) → Option Out) (a_1 : Int) (a_2 : Int) (a_3 : Int) (a_4 : Int) (a_5 : Int) (k : FK) : runS tt (has eql) Try.prog.funcs 18446744073709551616 (law18_FdbMoves_S Gfdb_Table_Learn Gfdb_Table_Look Gslices_Clone_fdb_Entry) (law18_FdbMoves_B Gfdb_Table_Learn Gfdb_Table_Look Gslices_Clone_fdb_Entry) opts 40 12 [.v (.c (.pv (.val (.int .u16 a_1)))), .v (.agg [.pv (.val (.int .u8 a_2)), .pv (.val (.int .u8 a_3)), .pv (.val (.int .u8 a_4)), .pv (.val (.int .u8 a_5))])] [] k = law18_FdbMoves_T Gfdb_Table_Learn Gfdb_Table_Look Gslices_Clone_fdb_Entry a_1 a_2 a_3 a_4 a_5 (k (.v (.c (.pv (.val (.bool false))))) []) (k (.v (.c (.pv (.val (.bool true))))) []) := by kernel_rfl
def law18_FdbMoves_p : PAr := ⟨[.v (.c (.pv (.int .u16 .h))), .v (.agg [.pv (.int .u8 .h), .pv (.int .u8 .h), .pv (.int .u8 .h), .pv (.int .u8 .h)])], []⟩
def law18_FdbMoves_F (h : List Hole) (k : FK) : Option Out := law18_FdbMoves (gI h 0) (gI h 1) (gI h 2) (gI h 3) (gI h 4) (k (.v (.c (.pv (.val (.bool false))))) []) (k (.v (.c (.pv (.val (.bool true))))) [])
theorem law18_FdbMoves_at (h : List Hole) : CallAt Try.prog 12 (arFill law18_FdbMoves_p h).1 (arFill law18_FdbMoves_p h).2 (law18_FdbMoves_F h) := by
  have e : arFill law18_FdbMoves_p h = ([.v (.c (.pv (.val (.int .u16 (gI h 0))))), .v (.agg [.pv (.val (.int .u8 (gI h 1))), .pv (.val (.int .u8 (gI h 2))), .pv (.val (.int .u8 (gI h 3))), .pv (.val (.int .u8 (gI h 4)))])], []) := by kernel_rfl
  rw [e]; exact callAt_of (runS_ok ttOk eqOk mixed (names_ok namesOk) (S := law18_FdbMoves_S fdb_Table_Learn fdb_Table_Look slices_Clone_fdb_Entry) (sums_cons yes38_ok (sums_cons insert_ok (sums_cons stat_ok (sums_cons (smOf_ok (alts_cons fdb_Table_Learn_at alts_nil)) (sums_cons (smOf_ok (alts_cons fdb_Table_Look_at alts_nil)) (sums_cons (smOf_ok (alts_cons slices_Clone_fdb_Entry_at alts_nil)) (sums_nil))))))) (B := law18_FdbMoves_B fdb_Table_Learn fdb_Table_Look slices_Clone_fdb_Entry) (hooks_nil) opts 40) fun k => law18_FdbMoves_eq fdb_Table_Learn fdb_Table_Look slices_Clone_fdb_Entry _ _ _ _ _ k
theorem call_ok : CallSem Try.prog (runS tt (has eql) Try.prog.funcs 18446744073709551616 (law18_FdbMoves_S fdb_Table_Learn fdb_Table_Look slices_Clone_fdb_Entry) (law18_FdbMoves_B fdb_Table_Learn fdb_Table_Look slices_Clone_fdb_Entry) opts 40) := runS_ok ttOk eqOk mixed (names_ok namesOk) (S := law18_FdbMoves_S fdb_Table_Learn fdb_Table_Look slices_Clone_fdb_Entry) (sums_cons yes38_ok (sums_cons insert_ok (sums_cons stat_ok (sums_cons (smOf_ok (alts_cons fdb_Table_Learn_at alts_nil)) (sums_cons (smOf_ok (alts_cons fdb_Table_Look_at alts_nil)) (sums_cons (smOf_ok (alts_cons slices_Clone_fdb_Entry_at alts_nil)) (sums_nil))))))) (B := law18_FdbMoves_B fdb_Table_Learn fdb_Table_Look slices_Clone_fdb_Entry) (hooks_nil) opts 40
theorem law_eq (a_1 : Int) (a_2 : Int) (a_3 : Int) (a_4 : Int) (a_5 : Int) (k : FK) : runS tt (has eql) Try.prog.funcs 18446744073709551616 (law18_FdbMoves_S fdb_Table_Learn fdb_Table_Look slices_Clone_fdb_Entry) (law18_FdbMoves_B fdb_Table_Learn fdb_Table_Look slices_Clone_fdb_Entry) opts 40 12 [.v (.c (.pv (.val (.int .u16 a_1)))), .v (.agg [.pv (.val (.int .u8 a_2)), .pv (.val (.int .u8 a_3)), .pv (.val (.int .u8 a_4)), .pv (.val (.int .u8 a_5))])] [] k = law18_FdbMoves a_1 a_2 a_3 a_4 a_5 (k (.v (.c (.pv (.val (.bool false))))) []) (k (.v (.c (.pv (.val (.bool true))))) []) := law18_FdbMoves_eq fdb_Table_Learn fdb_Table_Look slices_Clone_fdb_Entry a_1 a_2 a_3 a_4 a_5 k
end Go.Proofs.Ytampnnhdgnhjaaa.FdbMoves

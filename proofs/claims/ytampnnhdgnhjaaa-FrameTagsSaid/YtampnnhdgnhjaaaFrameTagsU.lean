/- FrameTags: the code of the law and of all that it calls, told by functions over numbers and rows. WRITTEN BY gen.py. -/
import Derived.Test.YtampnnhdgnhjaaaSeat
set_option linter.unusedVariables false
namespace Go.Proofs.Ytampnnhdgnhjaaa.FrameTags
open Go.Ve
set_option maxRecDepth 100000
theorem wakes_eq (k : AV → List AObj → Option Out) : runS tt (has eql) Try.prog.funcs 100000 [] [] (has bor) 40 25 [] [] k = k (.b true) [] := by kernel_rfl
theorem yes25_ok : SumOk Try.prog 25 yes := SumOk.yes (runS_ok ttOk eqOk mixed (names_ok namesOk) sums_nil hooks_nil (has bor) 40) wakes_eq
/- weirgate/frame.Tagged -/
def frame_Tagged_T {α : Type}  (a_1 : Int) (a_2 : Int) (a_3 : Bool) (a_4 : Int) (a_5 : Int) (a_6 : Int) (a_7 : Int) (a_8 : Nat) (a_9 : Nat → Nat → PV) (k0 : Nat → (Nat → Nat → PV) → Option α) (k1 : Int → Int → Int → Int → Nat → (Nat → Nat → PV) → Nat → (Nat → Nat → PV) → Option α) (k2 : Int → Int → Int → Int → Int → Nat → (Nat → Nat → PV) → Nat → (Nat → Nat → PV) → Option α) : Option α := bif decide (a_7 < 1) then
  k0 a_8 a_9
 else bif decide (a_7 ≥ 4095) then
  k0 a_8 a_9
 else bif !a_3 then
  bif Nat.ble ((0 + a_8) * 1) bound then
   k1 a_1 a_2 a_7 a_6 a_8 a_9 (0 + a_8) (catf 0 (rowOf 1 []) (a_9))
  else none /- test -/
 else bif Nat.ble ((0 + a_8) * 1) bound then
  k2 a_1 a_2 a_4 a_7 a_6 a_8 a_9 (0 + a_8) (catf 0 (rowOf 1 []) (a_9))
 else none /- test -/
def frame_Tagged {α : Type} (a_1 : Int) (a_2 : Int) (a_3 : Bool) (a_4 : Int) (a_5 : Int) (a_6 : Int) (a_7 : Int) (a_8 : Nat) (a_9 : Nat → Nat → PV) (k0 : Nat → (Nat → Nat → PV) → Option α) (k1 : Int → Int → Int → Int → Nat → (Nat → Nat → PV) → Nat → (Nat → Nat → PV) → Option α) (k2 : Int → Int → Int → Int → Int → Nat → (Nat → Nat → PV) → Nat → (Nat → Nat → PV) → Option α) : Option α := frame_Tagged_T  a_1 a_2 a_3 a_4 a_5 a_6 a_7 a_8 a_9 k0 k1 k2
def frame_Tagged_S  : List (Nat × Sm) := [(25, yes)]
def frame_Tagged_B  : Hooks := []
theorem frame_Tagged_eq  (a_1 : Int) (a_2 : Int) (a_3 : Bool) (a_4 : Int) (a_5 : Int) (a_6 : Int) (a_7 : Int) (a_8 : Nat) (a_9 : Nat → Nat → PV) (k : FK) : runS tt (has eql) Try.prog.funcs 1152921504606846976 (frame_Tagged_S ) (frame_Tagged_B ) (has bor) 40 34 [.v (.agg [.pv (.val (.int .u64 a_1)), .pv (.val (.int .u64 a_2)), .pv (.val (.bool a_3)), .pv (.val (.int .i64 a_4)), .pv (.val (.int .i64 a_5)), .pv (.val (.int .i64 a_6)), .own 0]), .v (.c (.pv (.val (.int .i64 a_7))))] [.parr false (.int .u8 .nil) 1 a_8 (a_9)] k = frame_Tagged_T  a_1 a_2 a_3 a_4 a_5 a_6 a_7 a_8 a_9 (fun r0 r1 => k (.tup [.agg [.pv (.val (.int .u64 0)), .pv (.val (.int .u64 0)), .pv (.val (.bool false)), .pv (.val (.int .i64 0)), .pv (.val (.int .i64 0)), .pv (.val (.int .i64 0)), .pv (.val (.slice none 0 0))], .c (.pv (.val (.int .i64 1)))]) [.parr false (.int .u8 .nil) 1 r0 (r1)]) (fun r0 r1 r2 r3 r4 r5 r6 r7 => k (.tup [.agg [.pv (.val (.int .u64 r0)), .pv (.val (.int .u64 r1)), .pv (.val (.bool true)), .pv (.val (.int .i64 0)), .pv (.val (.int .i64 r2)), .pv (.val (.int .i64 r3)), .own 1], .c (.pv (.val (.int .i64 0)))]) [.parr false (.int .u8 .nil) 1 r4 (r5), .parr false (.int .u8 .nil) 1 r6 (r7)]) (fun r0 r1 r2 r3 r4 r5 r6 r7 r8 => k (.tup [.agg [.pv (.val (.int .u64 r0)), .pv (.val (.int .u64 r1)), .pv (.val (.bool true)), .pv (.val (.int .i64 r2)), .pv (.val (.int .i64 r3)), .pv (.val (.int .i64 r4)), .own 1], .c (.pv (.val (.int .i64 0)))]) [.parr false (.int .u8 .nil) 1 r5 (r6), .parr false (.int .u8 .nil) 1 r7 (r8)]) := by kernel_rfl
def frame_Tagged_p : PAr := ⟨[.v (.agg [.pv (.int .u64 .h), .pv (.int .u64 .h), .pv (.bool .h), .pv (.int .i64 .h), .pv (.int .i64 .h), .pv (.int .i64 .h), .own 0]), .v (.c (.pv (.int .i64 .h)))], [.parr (.l false) (.int .u8 .nil) 1 .h]⟩
def frame_Tagged_F (h : List Hole) (k : FK) : Option Out := frame_Tagged (gI h 0) (gI h 1) (gB h 2) (gI h 3) (gI h 4) (gI h 5) (gI h 6) (gN h 7) (gF h 8) (fun r0 r1 => k (.tup [.agg [.pv (.val (.int .u64 0)), .pv (.val (.int .u64 0)), .pv (.val (.bool false)), .pv (.val (.int .i64 0)), .pv (.val (.int .i64 0)), .pv (.val (.int .i64 0)), .pv (.val (.slice none 0 0))], .c (.pv (.val (.int .i64 1)))]) [.parr false (.int .u8 .nil) 1 r0 (r1)]) (fun r0 r1 r2 r3 r4 r5 r6 r7 => k (.tup [.agg [.pv (.val (.int .u64 r0)), .pv (.val (.int .u64 r1)), .pv (.val (.bool true)), .pv (.val (.int .i64 0)), .pv (.val (.int .i64 r2)), .pv (.val (.int .i64 r3)), .own 1], .c (.pv (.val (.int .i64 0)))]) [.parr false (.int .u8 .nil) 1 r4 (r5), .parr false (.int .u8 .nil) 1 r6 (r7)]) (fun r0 r1 r2 r3 r4 r5 r6 r7 r8 => k (.tup [.agg [.pv (.val (.int .u64 r0)), .pv (.val (.int .u64 r1)), .pv (.val (.bool true)), .pv (.val (.int .i64 r2)), .pv (.val (.int .i64 r3)), .pv (.val (.int .i64 r4)), .own 1], .c (.pv (.val (.int .i64 0)))]) [.parr false (.int .u8 .nil) 1 r5 (r6), .parr false (.int .u8 .nil) 1 r7 (r8)])
theorem frame_Tagged_at (h : List Hole) : CallAt Try.prog 34 (arFill frame_Tagged_p h).1 (arFill frame_Tagged_p h).2 (frame_Tagged_F h) := by
  have e : arFill frame_Tagged_p h = ([.v (.agg [.pv (.val (.int .u64 (gI h 0))), .pv (.val (.int .u64 (gI h 1))), .pv (.val (.bool (gB h 2))), .pv (.val (.int .i64 (gI h 3))), .pv (.val (.int .i64 (gI h 4))), .pv (.val (.int .i64 (gI h 5))), .own 0]), .v (.c (.pv (.val (.int .i64 (gI h 6)))))], [.parr false (.int .u8 .nil) 1 (gN h 7) ((gF h 8))]) := by kernel_rfl
  rw [e]; exact callAt_of (runS_ok ttOk eqOk mixed (names_ok namesOk) (S := frame_Tagged_S ) (sums_cons yes25_ok (sums_nil)) (B := frame_Tagged_B ) (hooks_nil) (has bor) 40) fun k => frame_Tagged_eq  _ _ _ _ _ _ _ _ _ k
/- weirgate/weirgateref10.Tagged -/
def ref10_Tagged_T {α : Type}  (a_1 : Int) (a_2 : Int) (a_3 : Bool) (a_4 : Int) (a_5 : Int) (a_6 : Int) (a_7 : Bool) (a_8 : Nat) (a_9 : Nat → Nat → PV) (a_10 : Int) (k0 : Option α) (k1 : Int → Int → Int → Int → Nat → (Nat → Nat → PV) → Option α) (k2 : Int → Int → Int → Int → Int → Nat → (Nat → Nat → PV) → Option α) : Option α := bif decide (a_10 < 1) then
  k0
 else bif decide (a_10 > 4094) then
  k0
 else bif !a_3 then
  bif Nat.ble ((0 + a_8) * 1) bound then
   k1 a_1 a_2 a_10 a_6 (0 + a_8) (catf 0 (rowOf 1 []) (a_9))
  else none /- test -/
 else bif Nat.ble ((0 + a_8) * 1) bound then
  k2 a_1 a_2 a_4 a_10 a_6 (0 + a_8) (catf 0 (rowOf 1 []) (a_9))
 else none /- test -/
def ref10_Tagged {α : Type} (a_1 : Int) (a_2 : Int) (a_3 : Bool) (a_4 : Int) (a_5 : Int) (a_6 : Int) (a_7 : Bool) (a_8 : Nat) (a_9 : Nat → Nat → PV) (a_10 : Int) (k0 : Option α) (k1 : Int → Int → Int → Int → Nat → (Nat → Nat → PV) → Option α) (k2 : Int → Int → Int → Int → Int → Nat → (Nat → Nat → PV) → Option α) : Option α := ref10_Tagged_T  a_1 a_2 a_3 a_4 a_5 a_6 a_7 a_8 a_9 a_10 k0 k1 k2
def ref10_Tagged_S  : List (Nat × Sm) := [(25, yes)]
def ref10_Tagged_B  : Hooks := []
theorem ref10_Tagged_eq  (a_1 : Int) (a_2 : Int) (a_3 : Bool) (a_4 : Int) (a_5 : Int) (a_6 : Int) (a_7 : Bool) (a_8 : Nat) (a_9 : Nat → Nat → PV) (a_10 : Int) (k : FK) : runS tt (has eql) Try.prog.funcs 1152921504606846976 (ref10_Tagged_S ) (ref10_Tagged_B ) (has bor) 40 35 [.v (.agg [.pv (.val (.int .u64 a_1)), .pv (.val (.int .u64 a_2)), .pv (.val (.bool a_3)), .pv (.val (.int .i64 a_4)), .pv (.val (.int .i64 a_5)), .pv (.val (.int .i64 a_6)), .pv (.sl a_7 (.int .u8 .nil) 1 a_8 (a_9))]), .v (.c (.pv (.val (.int .i64 a_10))))] [] k = ref10_Tagged_T  a_1 a_2 a_3 a_4 a_5 a_6 a_7 a_8 a_9 a_10 (k (.tup [.agg [.pv (.val (.int .u64 0)), .pv (.val (.int .u64 0)), .pv (.val (.bool false)), .pv (.val (.int .i64 0)), .pv (.val (.int .i64 0)), .pv (.val (.int .i64 0)), .pv (.val (.slice none 0 0))], .c (.pv (.val (.int .i64 1)))]) []) (fun r0 r1 r2 r3 r4 r5 => k (.tup [.agg [.pv (.val (.int .u64 r0)), .pv (.val (.int .u64 r1)), .pv (.val (.bool true)), .pv (.val (.int .i64 0)), .pv (.val (.int .i64 r2)), .pv (.val (.int .i64 r3)), .own 0], .c (.pv (.val (.int .i64 0)))]) [.parr false (.int .u8 .nil) 1 r4 (r5)]) (fun r0 r1 r2 r3 r4 r5 r6 => k (.tup [.agg [.pv (.val (.int .u64 r0)), .pv (.val (.int .u64 r1)), .pv (.val (.bool true)), .pv (.val (.int .i64 r2)), .pv (.val (.int .i64 r3)), .pv (.val (.int .i64 r4)), .own 0], .c (.pv (.val (.int .i64 0)))]) [.parr false (.int .u8 .nil) 1 r5 (r6)]) := by kernel_rfl
def ref10_Tagged_p : PAr := ⟨[.v (.agg [.pv (.int .u64 .h), .pv (.int .u64 .h), .pv (.bool .h), .pv (.int .i64 .h), .pv (.int .i64 .h), .pv (.int .i64 .h), .pv (.sl .h (.int .u8 .nil) 1 .h)]), .v (.c (.pv (.int .i64 .h)))], []⟩
def ref10_Tagged_F (h : List Hole) (k : FK) : Option Out := ref10_Tagged (gI h 0) (gI h 1) (gB h 2) (gI h 3) (gI h 4) (gI h 5) (gB h 6) (gN h 7) (gF h 8) (gI h 9) (k (.tup [.agg [.pv (.val (.int .u64 0)), .pv (.val (.int .u64 0)), .pv (.val (.bool false)), .pv (.val (.int .i64 0)), .pv (.val (.int .i64 0)), .pv (.val (.int .i64 0)), .pv (.val (.slice none 0 0))], .c (.pv (.val (.int .i64 1)))]) []) (fun r0 r1 r2 r3 r4 r5 => k (.tup [.agg [.pv (.val (.int .u64 r0)), .pv (.val (.int .u64 r1)), .pv (.val (.bool true)), .pv (.val (.int .i64 0)), .pv (.val (.int .i64 r2)), .pv (.val (.int .i64 r3)), .own 0], .c (.pv (.val (.int .i64 0)))]) [.parr false (.int .u8 .nil) 1 r4 (r5)]) (fun r0 r1 r2 r3 r4 r5 r6 => k (.tup [.agg [.pv (.val (.int .u64 r0)), .pv (.val (.int .u64 r1)), .pv (.val (.bool true)), .pv (.val (.int .i64 r2)), .pv (.val (.int .i64 r3)), .pv (.val (.int .i64 r4)), .own 0], .c (.pv (.val (.int .i64 0)))]) [.parr false (.int .u8 .nil) 1 r5 (r6)])
theorem ref10_Tagged_at (h : List Hole) : CallAt Try.prog 35 (arFill ref10_Tagged_p h).1 (arFill ref10_Tagged_p h).2 (ref10_Tagged_F h) := by
  have e : arFill ref10_Tagged_p h = ([.v (.agg [.pv (.val (.int .u64 (gI h 0))), .pv (.val (.int .u64 (gI h 1))), .pv (.val (.bool (gB h 2))), .pv (.val (.int .i64 (gI h 3))), .pv (.val (.int .i64 (gI h 4))), .pv (.val (.int .i64 (gI h 5))), .pv (.sl (gB h 6) (.int .u8 .nil) 1 (gN h 7) ((gF h 8)))]), .v (.c (.pv (.val (.int .i64 (gI h 9)))))], []) := by kernel_rfl
  rw [e]; exact callAt_of (runS_ok ttOk eqOk mixed (names_ok namesOk) (S := ref10_Tagged_S ) (sums_cons yes25_ok (sums_nil)) (B := ref10_Tagged_B ) (hooks_nil) (has bor) 40) fun k => ref10_Tagged_eq  _ _ _ _ _ _ _ _ _ _ k
/- weirgate/weirgatekeep.Frames -/
def keep_Frames_T {α : Type}  (a_1 : Int) (a_2 : Int) (a_3 : Int) (a_4 : Int) (a_5 : Int) (a_6 : Int) (a_7 : Nat) (a_8 : Nat → Nat → PV) (a_9 : Nat) (a_10 : Nat → Nat → PV) (k0 : Bool → Nat → (Nat → Nat → PV) → Nat → (Nat → Nat → PV) → Option α) : Option α := bif (a_1 == a_4) then
  bif (a_2 == a_5) then
   bif (a_3 == a_6) then
    k0 ((strOf a_7 (a_8)).toList == (strOf a_9 (a_10)).toList) a_7 a_8 a_9 a_10
   else k0 false a_7 a_8 a_9 a_10
  else k0 false a_7 a_8 a_9 a_10
 else k0 false a_7 a_8 a_9 a_10
def keep_Frames {α : Type} (a_1 : Int) (a_2 : Int) (a_3 : Int) (a_4 : Int) (a_5 : Int) (a_6 : Int) (a_7 : Nat) (a_8 : Nat → Nat → PV) (a_9 : Nat) (a_10 : Nat → Nat → PV) (k0 : Bool → Nat → (Nat → Nat → PV) → Nat → (Nat → Nat → PV) → Option α) : Option α := keep_Frames_T  a_1 a_2 a_3 a_4 a_5 a_6 a_7 a_8 a_9 a_10 k0
def keep_Frames_S  : List (Nat × Sm) := [(25, yes)]
def keep_Frames_B  : Hooks := []
theorem keep_Frames_eq  (a_1 : Int) (a_2 : Int) (a_3 : Int) (a_4 : Int) (a_5 : Int) (a_6 : Int) (a_7 : Nat) (a_8 : Nat → Nat → PV) (a_9 : Nat) (a_10 : Nat → Nat → PV) (k : FK) : runS tt (has eql) Try.prog.funcs 1152921504606846976 (keep_Frames_S ) (keep_Frames_B ) (has bor) 40 23 [.v (.agg [.pv (.val (.int .u64 a_1)), .pv (.val (.int .u64 a_2)), .pv (.val (.bool false)), .pv (.val (.int .i64 0)), .pv (.val (.int .i64 0)), .pv (.val (.int .i64 a_3)), .own 0]), .v (.agg [.pv (.val (.int .u64 a_4)), .pv (.val (.int .u64 a_5)), .pv (.val (.bool false)), .pv (.val (.int .i64 0)), .pv (.val (.int .i64 0)), .pv (.val (.int .i64 a_6)), .own 1])] [.parr false (.int .u8 .nil) 1 a_7 (a_8), .parr false (.int .u8 .nil) 1 a_9 (a_10)] k = keep_Frames_T  a_1 a_2 a_3 a_4 a_5 a_6 a_7 a_8 a_9 a_10 (fun r0 r1 r2 r3 r4 => k (.v (.c (.pv (.val (.bool r0))))) [.parr false (.int .u8 .nil) 1 r1 (r2), .parr false (.int .u8 .nil) 1 r3 (r4)]) := by kernel_rfl
def keep_Frames_p : PAr := ⟨[.v (.agg [.pv (.int .u64 .h), .pv (.int .u64 .h), .pv (.bool (.l false)), .pv (.int .i64 (.l 0)), .pv (.int .i64 (.l 0)), .pv (.int .i64 .h), .own 0]), .v (.agg [.pv (.int .u64 .h), .pv (.int .u64 .h), .pv (.bool (.l false)), .pv (.int .i64 (.l 0)), .pv (.int .i64 (.l 0)), .pv (.int .i64 .h), .own 1])], [.parr (.l false) (.int .u8 .nil) 1 .h, .parr (.l false) (.int .u8 .nil) 1 .h]⟩
def keep_Frames_F (h : List Hole) (k : FK) : Option Out := keep_Frames (gI h 0) (gI h 1) (gI h 2) (gI h 3) (gI h 4) (gI h 5) (gN h 6) (gF h 7) (gN h 8) (gF h 9) (fun r0 r1 r2 r3 r4 => k (.v (.c (.pv (.val (.bool r0))))) [.parr false (.int .u8 .nil) 1 r1 (r2), .parr false (.int .u8 .nil) 1 r3 (r4)])
theorem keep_Frames_at (h : List Hole) : CallAt Try.prog 23 (arFill keep_Frames_p h).1 (arFill keep_Frames_p h).2 (keep_Frames_F h) := by
  have e : arFill keep_Frames_p h = ([.v (.agg [.pv (.val (.int .u64 (gI h 0))), .pv (.val (.int .u64 (gI h 1))), .pv (.val (.bool false)), .pv (.val (.int .i64 0)), .pv (.val (.int .i64 0)), .pv (.val (.int .i64 (gI h 2))), .own 0]), .v (.agg [.pv (.val (.int .u64 (gI h 3))), .pv (.val (.int .u64 (gI h 4))), .pv (.val (.bool false)), .pv (.val (.int .i64 0)), .pv (.val (.int .i64 0)), .pv (.val (.int .i64 (gI h 5))), .own 1])], [.parr false (.int .u8 .nil) 1 (gN h 6) ((gF h 7)), .parr false (.int .u8 .nil) 1 (gN h 8) ((gF h 9))]) := by kernel_rfl
  rw [e]; exact callAt_of (runS_ok ttOk eqOk mixed (names_ok namesOk) (S := keep_Frames_S ) (sums_cons yes25_ok (sums_nil)) (B := keep_Frames_B ) (hooks_nil) (has bor) 40) fun k => keep_Frames_eq  _ _ _ _ _ _ _ _ _ _ k
/- weirgate/weirgatekeep.Frames -/
def keep_Frames_v1_T {α : Type}  (a_1 : Int) (a_2 : Int) (a_3 : Int) (a_4 : Int) (a_5 : Nat) (a_6 : Nat → Nat → PV) (k0 : Nat → (Nat → Nat → PV) → Option α) : Option α := bif (0 == a_1) then
  bif (0 == a_2) then
   k0 a_5 a_6
  else k0 a_5 a_6
 else k0 a_5 a_6
def keep_Frames_v1 {α : Type} (a_1 : Int) (a_2 : Int) (a_3 : Int) (a_4 : Int) (a_5 : Nat) (a_6 : Nat → Nat → PV) (k0 : Nat → (Nat → Nat → PV) → Option α) : Option α := keep_Frames_v1_T  a_1 a_2 a_3 a_4 a_5 a_6 k0
def keep_Frames_v1_S  : List (Nat × Sm) := [(25, yes)]
def keep_Frames_v1_B  : Hooks := []
theorem keep_Frames_v1_eq  (a_1 : Int) (a_2 : Int) (a_3 : Int) (a_4 : Int) (a_5 : Nat) (a_6 : Nat → Nat → PV) (k : FK) : runS tt (has eql) Try.prog.funcs 1152921504606846976 (keep_Frames_v1_S ) (keep_Frames_v1_B ) (has bor) 40 23 [.v (.agg [.pv (.val (.int .u64 0)), .pv (.val (.int .u64 0)), .pv (.val (.bool false)), .pv (.val (.int .i64 0)), .pv (.val (.int .i64 0)), .pv (.val (.int .i64 0)), .pv (.val (.slice none 0 0))]), .v (.agg [.pv (.val (.int .u64 a_1)), .pv (.val (.int .u64 a_2)), .pv (.val (.bool true)), .pv (.val (.int .i64 0)), .pv (.val (.int .i64 a_3)), .pv (.val (.int .i64 a_4)), .own 0])] [.parr false (.int .u8 .nil) 1 a_5 (a_6)] k = keep_Frames_v1_T  a_1 a_2 a_3 a_4 a_5 a_6 (fun r0 r1 => k (.v (.c (.pv (.val (.bool false))))) [.parr false (.int .u8 .nil) 1 r0 (r1)]) := by kernel_rfl
def keep_Frames_v1_p : PAr := ⟨[.v (.agg [.pv (.int .u64 (.l 0)), .pv (.int .u64 (.l 0)), .pv (.bool (.l false)), .pv (.int .i64 (.l 0)), .pv (.int .i64 (.l 0)), .pv (.int .i64 (.l 0)), .pv (.nil)]), .v (.agg [.pv (.int .u64 .h), .pv (.int .u64 .h), .pv (.bool (.l true)), .pv (.int .i64 (.l 0)), .pv (.int .i64 .h), .pv (.int .i64 .h), .own 0])], [.parr (.l false) (.int .u8 .nil) 1 .h]⟩
def keep_Frames_v1_F (h : List Hole) (k : FK) : Option Out := keep_Frames_v1 (gI h 0) (gI h 1) (gI h 2) (gI h 3) (gN h 4) (gF h 5) (fun r0 r1 => k (.v (.c (.pv (.val (.bool false))))) [.parr false (.int .u8 .nil) 1 r0 (r1)])
theorem keep_Frames_v1_at (h : List Hole) : CallAt Try.prog 23 (arFill keep_Frames_v1_p h).1 (arFill keep_Frames_v1_p h).2 (keep_Frames_v1_F h) := by
  have e : arFill keep_Frames_v1_p h = ([.v (.agg [.pv (.val (.int .u64 0)), .pv (.val (.int .u64 0)), .pv (.val (.bool false)), .pv (.val (.int .i64 0)), .pv (.val (.int .i64 0)), .pv (.val (.int .i64 0)), .pv (.val (.slice none 0 0))]), .v (.agg [.pv (.val (.int .u64 (gI h 0))), .pv (.val (.int .u64 (gI h 1))), .pv (.val (.bool true)), .pv (.val (.int .i64 0)), .pv (.val (.int .i64 (gI h 2))), .pv (.val (.int .i64 (gI h 3))), .own 0])], [.parr false (.int .u8 .nil) 1 (gN h 4) ((gF h 5))]) := by kernel_rfl
  rw [e]; exact callAt_of (runS_ok ttOk eqOk mixed (names_ok namesOk) (S := keep_Frames_v1_S ) (sums_cons yes25_ok (sums_nil)) (B := keep_Frames_v1_B ) (hooks_nil) (has bor) 40) fun k => keep_Frames_v1_eq  _ _ _ _ _ _ k
/- weirgate/weirgatekeep.Frames -/
def keep_Frames_v2_T {α : Type}  (a_1 : Int) (a_2 : Int) (a_3 : Int) (a_4 : Int) (a_5 : Int) (a_6 : Nat) (a_7 : Nat → Nat → PV) (k0 : Nat → (Nat → Nat → PV) → Option α) : Option α := bif (0 == a_1) then
  bif (0 == a_2) then
   k0 a_6 a_7
  else k0 a_6 a_7
 else k0 a_6 a_7
def keep_Frames_v2 {α : Type} (a_1 : Int) (a_2 : Int) (a_3 : Int) (a_4 : Int) (a_5 : Int) (a_6 : Nat) (a_7 : Nat → Nat → PV) (k0 : Nat → (Nat → Nat → PV) → Option α) : Option α := keep_Frames_v2_T  a_1 a_2 a_3 a_4 a_5 a_6 a_7 k0
def keep_Frames_v2_S  : List (Nat × Sm) := [(25, yes)]
def keep_Frames_v2_B  : Hooks := []
theorem keep_Frames_v2_eq  (a_1 : Int) (a_2 : Int) (a_3 : Int) (a_4 : Int) (a_5 : Int) (a_6 : Nat) (a_7 : Nat → Nat → PV) (k : FK) : runS tt (has eql) Try.prog.funcs 1152921504606846976 (keep_Frames_v2_S ) (keep_Frames_v2_B ) (has bor) 40 23 [.v (.agg [.pv (.val (.int .u64 0)), .pv (.val (.int .u64 0)), .pv (.val (.bool false)), .pv (.val (.int .i64 0)), .pv (.val (.int .i64 0)), .pv (.val (.int .i64 0)), .pv (.val (.slice none 0 0))]), .v (.agg [.pv (.val (.int .u64 a_1)), .pv (.val (.int .u64 a_2)), .pv (.val (.bool true)), .pv (.val (.int .i64 a_3)), .pv (.val (.int .i64 a_4)), .pv (.val (.int .i64 a_5)), .own 0])] [.parr false (.int .u8 .nil) 1 a_6 (a_7)] k = keep_Frames_v2_T  a_1 a_2 a_3 a_4 a_5 a_6 a_7 (fun r0 r1 => k (.v (.c (.pv (.val (.bool false))))) [.parr false (.int .u8 .nil) 1 r0 (r1)]) := by kernel_rfl
def keep_Frames_v2_p : PAr := ⟨[.v (.agg [.pv (.int .u64 (.l 0)), .pv (.int .u64 (.l 0)), .pv (.bool (.l false)), .pv (.int .i64 (.l 0)), .pv (.int .i64 (.l 0)), .pv (.int .i64 (.l 0)), .pv (.nil)]), .v (.agg [.pv (.int .u64 .h), .pv (.int .u64 .h), .pv (.bool (.l true)), .pv (.int .i64 .h), .pv (.int .i64 .h), .pv (.int .i64 .h), .own 0])], [.parr (.l false) (.int .u8 .nil) 1 .h]⟩
def keep_Frames_v2_F (h : List Hole) (k : FK) : Option Out := keep_Frames_v2 (gI h 0) (gI h 1) (gI h 2) (gI h 3) (gI h 4) (gN h 5) (gF h 6) (fun r0 r1 => k (.v (.c (.pv (.val (.bool false))))) [.parr false (.int .u8 .nil) 1 r0 (r1)])
theorem keep_Frames_v2_at (h : List Hole) : CallAt Try.prog 23 (arFill keep_Frames_v2_p h).1 (arFill keep_Frames_v2_p h).2 (keep_Frames_v2_F h) := by
  have e : arFill keep_Frames_v2_p h = ([.v (.agg [.pv (.val (.int .u64 0)), .pv (.val (.int .u64 0)), .pv (.val (.bool false)), .pv (.val (.int .i64 0)), .pv (.val (.int .i64 0)), .pv (.val (.int .i64 0)), .pv (.val (.slice none 0 0))]), .v (.agg [.pv (.val (.int .u64 (gI h 0))), .pv (.val (.int .u64 (gI h 1))), .pv (.val (.bool true)), .pv (.val (.int .i64 (gI h 2))), .pv (.val (.int .i64 (gI h 3))), .pv (.val (.int .i64 (gI h 4))), .own 0])], [.parr false (.int .u8 .nil) 1 (gN h 5) ((gF h 6))]) := by kernel_rfl
  rw [e]; exact callAt_of (runS_ok ttOk eqOk mixed (names_ok namesOk) (S := keep_Frames_v2_S ) (sums_cons yes25_ok (sums_nil)) (B := keep_Frames_v2_B ) (hooks_nil) (has bor) 40) fun k => keep_Frames_v2_eq  _ _ _ _ _ _ _ k
/- weirgate/weirgatekeep.Frames -/
def keep_Frames_v3_T {α : Type}  (a_1 : Int) (a_2 : Int) (a_3 : Int) (a_4 : Int) (a_5 : Nat) (a_6 : Nat → Nat → PV) (k0 : Nat → (Nat → Nat → PV) → Option α) : Option α := bif (a_1 == 0) then
  bif (a_2 == 0) then
   k0 a_5 a_6
  else k0 a_5 a_6
 else k0 a_5 a_6
def keep_Frames_v3 {α : Type} (a_1 : Int) (a_2 : Int) (a_3 : Int) (a_4 : Int) (a_5 : Nat) (a_6 : Nat → Nat → PV) (k0 : Nat → (Nat → Nat → PV) → Option α) : Option α := keep_Frames_v3_T  a_1 a_2 a_3 a_4 a_5 a_6 k0
def keep_Frames_v3_S  : List (Nat × Sm) := [(25, yes)]
def keep_Frames_v3_B  : Hooks := []
theorem keep_Frames_v3_eq  (a_1 : Int) (a_2 : Int) (a_3 : Int) (a_4 : Int) (a_5 : Nat) (a_6 : Nat → Nat → PV) (k : FK) : runS tt (has eql) Try.prog.funcs 1152921504606846976 (keep_Frames_v3_S ) (keep_Frames_v3_B ) (has bor) 40 23 [.v (.agg [.pv (.val (.int .u64 a_1)), .pv (.val (.int .u64 a_2)), .pv (.val (.bool true)), .pv (.val (.int .i64 0)), .pv (.val (.int .i64 a_3)), .pv (.val (.int .i64 a_4)), .own 0]), .v (.agg [.pv (.val (.int .u64 0)), .pv (.val (.int .u64 0)), .pv (.val (.bool false)), .pv (.val (.int .i64 0)), .pv (.val (.int .i64 0)), .pv (.val (.int .i64 0)), .pv (.val (.slice none 0 0))])] [.parr false (.int .u8 .nil) 1 a_5 (a_6)] k = keep_Frames_v3_T  a_1 a_2 a_3 a_4 a_5 a_6 (fun r0 r1 => k (.v (.c (.pv (.val (.bool false))))) [.parr false (.int .u8 .nil) 1 r0 (r1)]) := by kernel_rfl
def keep_Frames_v3_p : PAr := ⟨[.v (.agg [.pv (.int .u64 .h), .pv (.int .u64 .h), .pv (.bool (.l true)), .pv (.int .i64 (.l 0)), .pv (.int .i64 .h), .pv (.int .i64 .h), .own 0]), .v (.agg [.pv (.int .u64 (.l 0)), .pv (.int .u64 (.l 0)), .pv (.bool (.l false)), .pv (.int .i64 (.l 0)), .pv (.int .i64 (.l 0)), .pv (.int .i64 (.l 0)), .pv (.nil)])], [.parr (.l false) (.int .u8 .nil) 1 .h]⟩
def keep_Frames_v3_F (h : List Hole) (k : FK) : Option Out := keep_Frames_v3 (gI h 0) (gI h 1) (gI h 2) (gI h 3) (gN h 4) (gF h 5) (fun r0 r1 => k (.v (.c (.pv (.val (.bool false))))) [.parr false (.int .u8 .nil) 1 r0 (r1)])
theorem keep_Frames_v3_at (h : List Hole) : CallAt Try.prog 23 (arFill keep_Frames_v3_p h).1 (arFill keep_Frames_v3_p h).2 (keep_Frames_v3_F h) := by
  have e : arFill keep_Frames_v3_p h = ([.v (.agg [.pv (.val (.int .u64 (gI h 0))), .pv (.val (.int .u64 (gI h 1))), .pv (.val (.bool true)), .pv (.val (.int .i64 0)), .pv (.val (.int .i64 (gI h 2))), .pv (.val (.int .i64 (gI h 3))), .own 0]), .v (.agg [.pv (.val (.int .u64 0)), .pv (.val (.int .u64 0)), .pv (.val (.bool false)), .pv (.val (.int .i64 0)), .pv (.val (.int .i64 0)), .pv (.val (.int .i64 0)), .pv (.val (.slice none 0 0))])], [.parr false (.int .u8 .nil) 1 (gN h 4) ((gF h 5))]) := by kernel_rfl
  rw [e]; exact callAt_of (runS_ok ttOk eqOk mixed (names_ok namesOk) (S := keep_Frames_v3_S ) (sums_cons yes25_ok (sums_nil)) (B := keep_Frames_v3_B ) (hooks_nil) (has bor) 40) fun k => keep_Frames_v3_eq  _ _ _ _ _ _ k
/- weirgate/weirgatekeep.Frames -/
def keep_Frames_v4_T {α : Type}  (a_1 : Int) (a_2 : Int) (a_3 : Int) (a_4 : Int) (a_5 : Int) (a_6 : Int) (a_7 : Int) (a_8 : Int) (a_9 : Nat) (a_10 : Nat → Nat → PV) (a_11 : Nat) (a_12 : Nat → Nat → PV) (k0 : Bool → Nat → (Nat → Nat → PV) → Nat → (Nat → Nat → PV) → Option α) : Option α := bif (a_1 == a_5) then
  bif (a_2 == a_6) then
   bif (a_3 == a_7) then
    bif (a_4 == a_8) then
     k0 ((strOf a_9 (a_10)).toList == (strOf a_11 (a_12)).toList) a_9 a_10 a_11 a_12
    else k0 false a_9 a_10 a_11 a_12
   else k0 false a_9 a_10 a_11 a_12
  else k0 false a_9 a_10 a_11 a_12
 else k0 false a_9 a_10 a_11 a_12
def keep_Frames_v4 {α : Type} (a_1 : Int) (a_2 : Int) (a_3 : Int) (a_4 : Int) (a_5 : Int) (a_6 : Int) (a_7 : Int) (a_8 : Int) (a_9 : Nat) (a_10 : Nat → Nat → PV) (a_11 : Nat) (a_12 : Nat → Nat → PV) (k0 : Bool → Nat → (Nat → Nat → PV) → Nat → (Nat → Nat → PV) → Option α) : Option α := keep_Frames_v4_T  a_1 a_2 a_3 a_4 a_5 a_6 a_7 a_8 a_9 a_10 a_11 a_12 k0
def keep_Frames_v4_S  : List (Nat × Sm) := [(25, yes)]
def keep_Frames_v4_B  : Hooks := []
theorem keep_Frames_v4_eq  (a_1 : Int) (a_2 : Int) (a_3 : Int) (a_4 : Int) (a_5 : Int) (a_6 : Int) (a_7 : Int) (a_8 : Int) (a_9 : Nat) (a_10 : Nat → Nat → PV) (a_11 : Nat) (a_12 : Nat → Nat → PV) (k : FK) : runS tt (has eql) Try.prog.funcs 1152921504606846976 (keep_Frames_v4_S ) (keep_Frames_v4_B ) (has bor) 40 23 [.v (.agg [.pv (.val (.int .u64 a_1)), .pv (.val (.int .u64 a_2)), .pv (.val (.bool true)), .pv (.val (.int .i64 0)), .pv (.val (.int .i64 a_3)), .pv (.val (.int .i64 a_4)), .own 0]), .v (.agg [.pv (.val (.int .u64 a_5)), .pv (.val (.int .u64 a_6)), .pv (.val (.bool true)), .pv (.val (.int .i64 0)), .pv (.val (.int .i64 a_7)), .pv (.val (.int .i64 a_8)), .own 1])] [.parr false (.int .u8 .nil) 1 a_9 (a_10), .parr false (.int .u8 .nil) 1 a_11 (a_12)] k = keep_Frames_v4_T  a_1 a_2 a_3 a_4 a_5 a_6 a_7 a_8 a_9 a_10 a_11 a_12 (fun r0 r1 r2 r3 r4 => k (.v (.c (.pv (.val (.bool r0))))) [.parr false (.int .u8 .nil) 1 r1 (r2), .parr false (.int .u8 .nil) 1 r3 (r4)]) := by kernel_rfl
def keep_Frames_v4_p : PAr := ⟨[.v (.agg [.pv (.int .u64 .h), .pv (.int .u64 .h), .pv (.bool (.l true)), .pv (.int .i64 (.l 0)), .pv (.int .i64 .h), .pv (.int .i64 .h), .own 0]), .v (.agg [.pv (.int .u64 .h), .pv (.int .u64 .h), .pv (.bool (.l true)), .pv (.int .i64 (.l 0)), .pv (.int .i64 .h), .pv (.int .i64 .h), .own 1])], [.parr (.l false) (.int .u8 .nil) 1 .h, .parr (.l false) (.int .u8 .nil) 1 .h]⟩
def keep_Frames_v4_F (h : List Hole) (k : FK) : Option Out := keep_Frames_v4 (gI h 0) (gI h 1) (gI h 2) (gI h 3) (gI h 4) (gI h 5) (gI h 6) (gI h 7) (gN h 8) (gF h 9) (gN h 10) (gF h 11) (fun r0 r1 r2 r3 r4 => k (.v (.c (.pv (.val (.bool r0))))) [.parr false (.int .u8 .nil) 1 r1 (r2), .parr false (.int .u8 .nil) 1 r3 (r4)])
theorem keep_Frames_v4_at (h : List Hole) : CallAt Try.prog 23 (arFill keep_Frames_v4_p h).1 (arFill keep_Frames_v4_p h).2 (keep_Frames_v4_F h) := by
  have e : arFill keep_Frames_v4_p h = ([.v (.agg [.pv (.val (.int .u64 (gI h 0))), .pv (.val (.int .u64 (gI h 1))), .pv (.val (.bool true)), .pv (.val (.int .i64 0)), .pv (.val (.int .i64 (gI h 2))), .pv (.val (.int .i64 (gI h 3))), .own 0]), .v (.agg [.pv (.val (.int .u64 (gI h 4))), .pv (.val (.int .u64 (gI h 5))), .pv (.val (.bool true)), .pv (.val (.int .i64 0)), .pv (.val (.int .i64 (gI h 6))), .pv (.val (.int .i64 (gI h 7))), .own 1])], [.parr false (.int .u8 .nil) 1 (gN h 8) ((gF h 9)), .parr false (.int .u8 .nil) 1 (gN h 10) ((gF h 11))]) := by kernel_rfl
  rw [e]; exact callAt_of (runS_ok ttOk eqOk mixed (names_ok namesOk) (S := keep_Frames_v4_S ) (sums_cons yes25_ok (sums_nil)) (B := keep_Frames_v4_B ) (hooks_nil) (has bor) 40) fun k => keep_Frames_v4_eq  _ _ _ _ _ _ _ _ _ _ _ _ k
/- weirgate/weirgatekeep.Frames -/
def keep_Frames_v5_T {α : Type}  (a_1 : Int) (a_2 : Int) (a_3 : Int) (a_4 : Int) (a_5 : Int) (a_6 : Int) (a_7 : Int) (a_8 : Int) (a_9 : Int) (a_10 : Nat) (a_11 : Nat → Nat → PV) (a_12 : Nat) (a_13 : Nat → Nat → PV) (k0 : Bool → Nat → (Nat → Nat → PV) → Nat → (Nat → Nat → PV) → Option α) : Option α := bif (a_1 == a_5) then
  bif (a_2 == a_6) then
   bif (0 == a_7) then
    bif (a_3 == a_8) then
     bif (a_4 == a_9) then
      k0 ((strOf a_10 (a_11)).toList == (strOf a_12 (a_13)).toList) a_10 a_11 a_12 a_13
     else k0 false a_10 a_11 a_12 a_13
    else k0 false a_10 a_11 a_12 a_13
   else k0 false a_10 a_11 a_12 a_13
  else k0 false a_10 a_11 a_12 a_13
 else k0 false a_10 a_11 a_12 a_13
def keep_Frames_v5 {α : Type} (a_1 : Int) (a_2 : Int) (a_3 : Int) (a_4 : Int) (a_5 : Int) (a_6 : Int) (a_7 : Int) (a_8 : Int) (a_9 : Int) (a_10 : Nat) (a_11 : Nat → Nat → PV) (a_12 : Nat) (a_13 : Nat → Nat → PV) (k0 : Bool → Nat → (Nat → Nat → PV) → Nat → (Nat → Nat → PV) → Option α) : Option α := keep_Frames_v5_T  a_1 a_2 a_3 a_4 a_5 a_6 a_7 a_8 a_9 a_10 a_11 a_12 a_13 k0
def keep_Frames_v5_S  : List (Nat × Sm) := [(25, yes)]
def keep_Frames_v5_B  : Hooks := []
theorem keep_Frames_v5_eq  (a_1 : Int) (a_2 : Int) (a_3 : Int) (a_4 : Int) (a_5 : Int) (a_6 : Int) (a_7 : Int) (a_8 : Int) (a_9 : Int) (a_10 : Nat) (a_11 : Nat → Nat → PV) (a_12 : Nat) (a_13 : Nat → Nat → PV) (k : FK) : runS tt (has eql) Try.prog.funcs 1152921504606846976 (keep_Frames_v5_S ) (keep_Frames_v5_B ) (has bor) 40 23 [.v (.agg [.pv (.val (.int .u64 a_1)), .pv (.val (.int .u64 a_2)), .pv (.val (.bool true)), .pv (.val (.int .i64 0)), .pv (.val (.int .i64 a_3)), .pv (.val (.int .i64 a_4)), .own 0]), .v (.agg [.pv (.val (.int .u64 a_5)), .pv (.val (.int .u64 a_6)), .pv (.val (.bool true)), .pv (.val (.int .i64 a_7)), .pv (.val (.int .i64 a_8)), .pv (.val (.int .i64 a_9)), .own 1])] [.parr false (.int .u8 .nil) 1 a_10 (a_11), .parr false (.int .u8 .nil) 1 a_12 (a_13)] k = keep_Frames_v5_T  a_1 a_2 a_3 a_4 a_5 a_6 a_7 a_8 a_9 a_10 a_11 a_12 a_13 (fun r0 r1 r2 r3 r4 => k (.v (.c (.pv (.val (.bool r0))))) [.parr false (.int .u8 .nil) 1 r1 (r2), .parr false (.int .u8 .nil) 1 r3 (r4)]) := by kernel_rfl
def keep_Frames_v5_p : PAr := ⟨[.v (.agg [.pv (.int .u64 .h), .pv (.int .u64 .h), .pv (.bool (.l true)), .pv (.int .i64 (.l 0)), .pv (.int .i64 .h), .pv (.int .i64 .h), .own 0]), .v (.agg [.pv (.int .u64 .h), .pv (.int .u64 .h), .pv (.bool (.l true)), .pv (.int .i64 .h), .pv (.int .i64 .h), .pv (.int .i64 .h), .own 1])], [.parr (.l false) (.int .u8 .nil) 1 .h, .parr (.l false) (.int .u8 .nil) 1 .h]⟩
def keep_Frames_v5_F (h : List Hole) (k : FK) : Option Out := keep_Frames_v5 (gI h 0) (gI h 1) (gI h 2) (gI h 3) (gI h 4) (gI h 5) (gI h 6) (gI h 7) (gI h 8) (gN h 9) (gF h 10) (gN h 11) (gF h 12) (fun r0 r1 r2 r3 r4 => k (.v (.c (.pv (.val (.bool r0))))) [.parr false (.int .u8 .nil) 1 r1 (r2), .parr false (.int .u8 .nil) 1 r3 (r4)])
theorem keep_Frames_v5_at (h : List Hole) : CallAt Try.prog 23 (arFill keep_Frames_v5_p h).1 (arFill keep_Frames_v5_p h).2 (keep_Frames_v5_F h) := by
  have e : arFill keep_Frames_v5_p h = ([.v (.agg [.pv (.val (.int .u64 (gI h 0))), .pv (.val (.int .u64 (gI h 1))), .pv (.val (.bool true)), .pv (.val (.int .i64 0)), .pv (.val (.int .i64 (gI h 2))), .pv (.val (.int .i64 (gI h 3))), .own 0]), .v (.agg [.pv (.val (.int .u64 (gI h 4))), .pv (.val (.int .u64 (gI h 5))), .pv (.val (.bool true)), .pv (.val (.int .i64 (gI h 6))), .pv (.val (.int .i64 (gI h 7))), .pv (.val (.int .i64 (gI h 8))), .own 1])], [.parr false (.int .u8 .nil) 1 (gN h 9) ((gF h 10)), .parr false (.int .u8 .nil) 1 (gN h 11) ((gF h 12))]) := by kernel_rfl
  rw [e]; exact callAt_of (runS_ok ttOk eqOk mixed (names_ok namesOk) (S := keep_Frames_v5_S ) (sums_cons yes25_ok (sums_nil)) (B := keep_Frames_v5_B ) (hooks_nil) (has bor) 40) fun k => keep_Frames_v5_eq  _ _ _ _ _ _ _ _ _ _ _ _ _ k
/- weirgate/weirgatekeep.Frames -/
def keep_Frames_v6_T {α : Type}  (a_1 : Int) (a_2 : Int) (a_3 : Int) (a_4 : Int) (a_5 : Int) (a_6 : Nat) (a_7 : Nat → Nat → PV) (k0 : Nat → (Nat → Nat → PV) → Option α) : Option α := bif (a_1 == 0) then
  bif (a_2 == 0) then
   k0 a_6 a_7
  else k0 a_6 a_7
 else k0 a_6 a_7
def keep_Frames_v6 {α : Type} (a_1 : Int) (a_2 : Int) (a_3 : Int) (a_4 : Int) (a_5 : Int) (a_6 : Nat) (a_7 : Nat → Nat → PV) (k0 : Nat → (Nat → Nat → PV) → Option α) : Option α := keep_Frames_v6_T  a_1 a_2 a_3 a_4 a_5 a_6 a_7 k0
def keep_Frames_v6_S  : List (Nat × Sm) := [(25, yes)]
def keep_Frames_v6_B  : Hooks := []
theorem keep_Frames_v6_eq  (a_1 : Int) (a_2 : Int) (a_3 : Int) (a_4 : Int) (a_5 : Int) (a_6 : Nat) (a_7 : Nat → Nat → PV) (k : FK) : runS tt (has eql) Try.prog.funcs 1152921504606846976 (keep_Frames_v6_S ) (keep_Frames_v6_B ) (has bor) 40 23 [.v (.agg [.pv (.val (.int .u64 a_1)), .pv (.val (.int .u64 a_2)), .pv (.val (.bool true)), .pv (.val (.int .i64 a_3)), .pv (.val (.int .i64 a_4)), .pv (.val (.int .i64 a_5)), .own 0]), .v (.agg [.pv (.val (.int .u64 0)), .pv (.val (.int .u64 0)), .pv (.val (.bool false)), .pv (.val (.int .i64 0)), .pv (.val (.int .i64 0)), .pv (.val (.int .i64 0)), .pv (.val (.slice none 0 0))])] [.parr false (.int .u8 .nil) 1 a_6 (a_7)] k = keep_Frames_v6_T  a_1 a_2 a_3 a_4 a_5 a_6 a_7 (fun r0 r1 => k (.v (.c (.pv (.val (.bool false))))) [.parr false (.int .u8 .nil) 1 r0 (r1)]) := by kernel_rfl
def keep_Frames_v6_p : PAr := ⟨[.v (.agg [.pv (.int .u64 .h), .pv (.int .u64 .h), .pv (.bool (.l true)), .pv (.int .i64 .h), .pv (.int .i64 .h), .pv (.int .i64 .h), .own 0]), .v (.agg [.pv (.int .u64 (.l 0)), .pv (.int .u64 (.l 0)), .pv (.bool (.l false)), .pv (.int .i64 (.l 0)), .pv (.int .i64 (.l 0)), .pv (.int .i64 (.l 0)), .pv (.nil)])], [.parr (.l false) (.int .u8 .nil) 1 .h]⟩
def keep_Frames_v6_F (h : List Hole) (k : FK) : Option Out := keep_Frames_v6 (gI h 0) (gI h 1) (gI h 2) (gI h 3) (gI h 4) (gN h 5) (gF h 6) (fun r0 r1 => k (.v (.c (.pv (.val (.bool false))))) [.parr false (.int .u8 .nil) 1 r0 (r1)])
theorem keep_Frames_v6_at (h : List Hole) : CallAt Try.prog 23 (arFill keep_Frames_v6_p h).1 (arFill keep_Frames_v6_p h).2 (keep_Frames_v6_F h) := by
  have e : arFill keep_Frames_v6_p h = ([.v (.agg [.pv (.val (.int .u64 (gI h 0))), .pv (.val (.int .u64 (gI h 1))), .pv (.val (.bool true)), .pv (.val (.int .i64 (gI h 2))), .pv (.val (.int .i64 (gI h 3))), .pv (.val (.int .i64 (gI h 4))), .own 0]), .v (.agg [.pv (.val (.int .u64 0)), .pv (.val (.int .u64 0)), .pv (.val (.bool false)), .pv (.val (.int .i64 0)), .pv (.val (.int .i64 0)), .pv (.val (.int .i64 0)), .pv (.val (.slice none 0 0))])], [.parr false (.int .u8 .nil) 1 (gN h 5) ((gF h 6))]) := by kernel_rfl
  rw [e]; exact callAt_of (runS_ok ttOk eqOk mixed (names_ok namesOk) (S := keep_Frames_v6_S ) (sums_cons yes25_ok (sums_nil)) (B := keep_Frames_v6_B ) (hooks_nil) (has bor) 40) fun k => keep_Frames_v6_eq  _ _ _ _ _ _ _ k
/- weirgate/weirgatekeep.Frames -/
def keep_Frames_v7_T {α : Type}  (a_1 : Int) (a_2 : Int) (a_3 : Int) (a_4 : Int) (a_5 : Int) (a_6 : Int) (a_7 : Int) (a_8 : Int) (a_9 : Int) (a_10 : Nat) (a_11 : Nat → Nat → PV) (a_12 : Nat) (a_13 : Nat → Nat → PV) (k0 : Bool → Nat → (Nat → Nat → PV) → Nat → (Nat → Nat → PV) → Option α) : Option α := bif (a_1 == a_6) then
  bif (a_2 == a_7) then
   bif (a_3 == 0) then
    bif (a_4 == a_8) then
     bif (a_5 == a_9) then
      k0 ((strOf a_10 (a_11)).toList == (strOf a_12 (a_13)).toList) a_10 a_11 a_12 a_13
     else k0 false a_10 a_11 a_12 a_13
    else k0 false a_10 a_11 a_12 a_13
   else k0 false a_10 a_11 a_12 a_13
  else k0 false a_10 a_11 a_12 a_13
 else k0 false a_10 a_11 a_12 a_13
def keep_Frames_v7 {α : Type} (a_1 : Int) (a_2 : Int) (a_3 : Int) (a_4 : Int) (a_5 : Int) (a_6 : Int) (a_7 : Int) (a_8 : Int) (a_9 : Int) (a_10 : Nat) (a_11 : Nat → Nat → PV) (a_12 : Nat) (a_13 : Nat → Nat → PV) (k0 : Bool → Nat → (Nat → Nat → PV) → Nat → (Nat → Nat → PV) → Option α) : Option α := keep_Frames_v7_T  a_1 a_2 a_3 a_4 a_5 a_6 a_7 a_8 a_9 a_10 a_11 a_12 a_13 k0
def keep_Frames_v7_S  : List (Nat × Sm) := [(25, yes)]
def keep_Frames_v7_B  : Hooks := []
theorem keep_Frames_v7_eq  (a_1 : Int) (a_2 : Int) (a_3 : Int) (a_4 : Int) (a_5 : Int) (a_6 : Int) (a_7 : Int) (a_8 : Int) (a_9 : Int) (a_10 : Nat) (a_11 : Nat → Nat → PV) (a_12 : Nat) (a_13 : Nat → Nat → PV) (k : FK) : runS tt (has eql) Try.prog.funcs 1152921504606846976 (keep_Frames_v7_S ) (keep_Frames_v7_B ) (has bor) 40 23 [.v (.agg [.pv (.val (.int .u64 a_1)), .pv (.val (.int .u64 a_2)), .pv (.val (.bool true)), .pv (.val (.int .i64 a_3)), .pv (.val (.int .i64 a_4)), .pv (.val (.int .i64 a_5)), .own 0]), .v (.agg [.pv (.val (.int .u64 a_6)), .pv (.val (.int .u64 a_7)), .pv (.val (.bool true)), .pv (.val (.int .i64 0)), .pv (.val (.int .i64 a_8)), .pv (.val (.int .i64 a_9)), .own 1])] [.parr false (.int .u8 .nil) 1 a_10 (a_11), .parr false (.int .u8 .nil) 1 a_12 (a_13)] k = keep_Frames_v7_T  a_1 a_2 a_3 a_4 a_5 a_6 a_7 a_8 a_9 a_10 a_11 a_12 a_13 (fun r0 r1 r2 r3 r4 => k (.v (.c (.pv (.val (.bool r0))))) [.parr false (.int .u8 .nil) 1 r1 (r2), .parr false (.int .u8 .nil) 1 r3 (r4)]) := by kernel_rfl
def keep_Frames_v7_p : PAr := ⟨[.v (.agg [.pv (.int .u64 .h), .pv (.int .u64 .h), .pv (.bool (.l true)), .pv (.int .i64 .h), .pv (.int .i64 .h), .pv (.int .i64 .h), .own 0]), .v (.agg [.pv (.int .u64 .h), .pv (.int .u64 .h), .pv (.bool (.l true)), .pv (.int .i64 (.l 0)), .pv (.int .i64 .h), .pv (.int .i64 .h), .own 1])], [.parr (.l false) (.int .u8 .nil) 1 .h, .parr (.l false) (.int .u8 .nil) 1 .h]⟩
def keep_Frames_v7_F (h : List Hole) (k : FK) : Option Out := keep_Frames_v7 (gI h 0) (gI h 1) (gI h 2) (gI h 3) (gI h 4) (gI h 5) (gI h 6) (gI h 7) (gI h 8) (gN h 9) (gF h 10) (gN h 11) (gF h 12) (fun r0 r1 r2 r3 r4 => k (.v (.c (.pv (.val (.bool r0))))) [.parr false (.int .u8 .nil) 1 r1 (r2), .parr false (.int .u8 .nil) 1 r3 (r4)])
theorem keep_Frames_v7_at (h : List Hole) : CallAt Try.prog 23 (arFill keep_Frames_v7_p h).1 (arFill keep_Frames_v7_p h).2 (keep_Frames_v7_F h) := by
  have e : arFill keep_Frames_v7_p h = ([.v (.agg [.pv (.val (.int .u64 (gI h 0))), .pv (.val (.int .u64 (gI h 1))), .pv (.val (.bool true)), .pv (.val (.int .i64 (gI h 2))), .pv (.val (.int .i64 (gI h 3))), .pv (.val (.int .i64 (gI h 4))), .own 0]), .v (.agg [.pv (.val (.int .u64 (gI h 5))), .pv (.val (.int .u64 (gI h 6))), .pv (.val (.bool true)), .pv (.val (.int .i64 0)), .pv (.val (.int .i64 (gI h 7))), .pv (.val (.int .i64 (gI h 8))), .own 1])], [.parr false (.int .u8 .nil) 1 (gN h 9) ((gF h 10)), .parr false (.int .u8 .nil) 1 (gN h 11) ((gF h 12))]) := by kernel_rfl
  rw [e]; exact callAt_of (runS_ok ttOk eqOk mixed (names_ok namesOk) (S := keep_Frames_v7_S ) (sums_cons yes25_ok (sums_nil)) (B := keep_Frames_v7_B ) (hooks_nil) (has bor) 40) fun k => keep_Frames_v7_eq  _ _ _ _ _ _ _ _ _ _ _ _ _ k
/- weirgate/weirgatekeep.Frames -/
def keep_Frames_v8_T {α : Type}  (a_1 : Int) (a_2 : Int) (a_3 : Int) (a_4 : Int) (a_5 : Int) (a_6 : Int) (a_7 : Int) (a_8 : Int) (a_9 : Int) (a_10 : Int) (a_11 : Nat) (a_12 : Nat → Nat → PV) (a_13 : Nat) (a_14 : Nat → Nat → PV) (k0 : Bool → Nat → (Nat → Nat → PV) → Nat → (Nat → Nat → PV) → Option α) : Option α := bif (a_1 == a_6) then
  bif (a_2 == a_7) then
   bif (a_3 == a_8) then
    bif (a_4 == a_9) then
     bif (a_5 == a_10) then
      k0 ((strOf a_11 (a_12)).toList == (strOf a_13 (a_14)).toList) a_11 a_12 a_13 a_14
     else k0 false a_11 a_12 a_13 a_14
    else k0 false a_11 a_12 a_13 a_14
   else k0 false a_11 a_12 a_13 a_14
  else k0 false a_11 a_12 a_13 a_14
 else k0 false a_11 a_12 a_13 a_14
def keep_Frames_v8 {α : Type} (a_1 : Int) (a_2 : Int) (a_3 : Int) (a_4 : Int) (a_5 : Int) (a_6 : Int) (a_7 : Int) (a_8 : Int) (a_9 : Int) (a_10 : Int) (a_11 : Nat) (a_12 : Nat → Nat → PV) (a_13 : Nat) (a_14 : Nat → Nat → PV) (k0 : Bool → Nat → (Nat → Nat → PV) → Nat → (Nat → Nat → PV) → Option α) : Option α := keep_Frames_v8_T  a_1 a_2 a_3 a_4 a_5 a_6 a_7 a_8 a_9 a_10 a_11 a_12 a_13 a_14 k0
def keep_Frames_v8_S  : List (Nat × Sm) := [(25, yes)]
def keep_Frames_v8_B  : Hooks := []
theorem keep_Frames_v8_eq  (a_1 : Int) (a_2 : Int) (a_3 : Int) (a_4 : Int) (a_5 : Int) (a_6 : Int) (a_7 : Int) (a_8 : Int) (a_9 : Int) (a_10 : Int) (a_11 : Nat) (a_12 : Nat → Nat → PV) (a_13 : Nat) (a_14 : Nat → Nat → PV) (k : FK) : runS tt (has eql) Try.prog.funcs 1152921504606846976 (keep_Frames_v8_S ) (keep_Frames_v8_B ) (has bor) 40 23 [.v (.agg [.pv (.val (.int .u64 a_1)), .pv (.val (.int .u64 a_2)), .pv (.val (.bool true)), .pv (.val (.int .i64 a_3)), .pv (.val (.int .i64 a_4)), .pv (.val (.int .i64 a_5)), .own 0]), .v (.agg [.pv (.val (.int .u64 a_6)), .pv (.val (.int .u64 a_7)), .pv (.val (.bool true)), .pv (.val (.int .i64 a_8)), .pv (.val (.int .i64 a_9)), .pv (.val (.int .i64 a_10)), .own 1])] [.parr false (.int .u8 .nil) 1 a_11 (a_12), .parr false (.int .u8 .nil) 1 a_13 (a_14)] k = keep_Frames_v8_T  a_1 a_2 a_3 a_4 a_5 a_6 a_7 a_8 a_9 a_10 a_11 a_12 a_13 a_14 (fun r0 r1 r2 r3 r4 => k (.v (.c (.pv (.val (.bool r0))))) [.parr false (.int .u8 .nil) 1 r1 (r2), .parr false (.int .u8 .nil) 1 r3 (r4)]) := by kernel_rfl
def keep_Frames_v8_p : PAr := ⟨[.v (.agg [.pv (.int .u64 .h), .pv (.int .u64 .h), .pv (.bool (.l true)), .pv (.int .i64 .h), .pv (.int .i64 .h), .pv (.int .i64 .h), .own 0]), .v (.agg [.pv (.int .u64 .h), .pv (.int .u64 .h), .pv (.bool (.l true)), .pv (.int .i64 .h), .pv (.int .i64 .h), .pv (.int .i64 .h), .own 1])], [.parr (.l false) (.int .u8 .nil) 1 .h, .parr (.l false) (.int .u8 .nil) 1 .h]⟩
def keep_Frames_v8_F (h : List Hole) (k : FK) : Option Out := keep_Frames_v8 (gI h 0) (gI h 1) (gI h 2) (gI h 3) (gI h 4) (gI h 5) (gI h 6) (gI h 7) (gI h 8) (gI h 9) (gN h 10) (gF h 11) (gN h 12) (gF h 13) (fun r0 r1 r2 r3 r4 => k (.v (.c (.pv (.val (.bool r0))))) [.parr false (.int .u8 .nil) 1 r1 (r2), .parr false (.int .u8 .nil) 1 r3 (r4)])
theorem keep_Frames_v8_at (h : List Hole) : CallAt Try.prog 23 (arFill keep_Frames_v8_p h).1 (arFill keep_Frames_v8_p h).2 (keep_Frames_v8_F h) := by
  have e : arFill keep_Frames_v8_p h = ([.v (.agg [.pv (.val (.int .u64 (gI h 0))), .pv (.val (.int .u64 (gI h 1))), .pv (.val (.bool true)), .pv (.val (.int .i64 (gI h 2))), .pv (.val (.int .i64 (gI h 3))), .pv (.val (.int .i64 (gI h 4))), .own 0]), .v (.agg [.pv (.val (.int .u64 (gI h 5))), .pv (.val (.int .u64 (gI h 6))), .pv (.val (.bool true)), .pv (.val (.int .i64 (gI h 7))), .pv (.val (.int .i64 (gI h 8))), .pv (.val (.int .i64 (gI h 9))), .own 1])], [.parr false (.int .u8 .nil) 1 (gN h 10) ((gF h 11)), .parr false (.int .u8 .nil) 1 (gN h 12) ((gF h 13))]) := by kernel_rfl
  rw [e]; exact callAt_of (runS_ok ttOk eqOk mixed (names_ok namesOk) (S := keep_Frames_v8_S ) (sums_cons yes25_ok (sums_nil)) (B := keep_Frames_v8_B ) (hooks_nil) (has bor) 40) fun k => keep_Frames_v8_eq  _ _ _ _ _ _ _ _ _ _ _ _ _ _ k
/- weirgate/weirgatelaw10.FrameTags -/
def law10_FrameTags_T {α : Type} (Gframe_Tagged : Int → Int → Bool → Int → Int → Int → Int → Nat → (Nat → Nat → PV) → (Nat → (Nat → Nat → PV) → Option α) → (Int → Int → Int → Int → Nat → (Nat → Nat → PV) → Nat → (Nat → Nat → PV) → Option α) → (Int → Int → Int → Int → Int → Nat → (Nat → Nat → PV) → Nat → (Nat → Nat → PV) → Option α) → Option α) (Gref10_Tagged : Int → Int → Bool → Int → Int → Int → Bool → Nat → (Nat → Nat → PV) → Int → (Option α) → (Int → Int → Int → Int → Nat → (Nat → Nat → PV) → Option α) → (Int → Int → Int → Int → Int → Nat → (Nat → Nat → PV) → Option α) → Option α) (Gkeep_Frames : Int → Int → Int → Int → Int → Int → Nat → (Nat → Nat → PV) → Nat → (Nat → Nat → PV) → (Bool → Nat → (Nat → Nat → PV) → Nat → (Nat → Nat → PV) → Option α) → Option α) (Gkeep_Frames_v2 : Int → Int → Int → Int → Int → Nat → (Nat → Nat → PV) → (Nat → (Nat → Nat → PV) → Option α) → Option α) (Gkeep_Frames_v6 : Int → Int → Int → Int → Int → Nat → (Nat → Nat → PV) → (Nat → (Nat → Nat → PV) → Option α) → Option α) (Gkeep_Frames_v8 : Int → Int → Int → Int → Int → Int → Int → Int → Int → Int → Nat → (Nat → Nat → PV) → Nat → (Nat → Nat → PV) → (Bool → Nat → (Nat → Nat → PV) → Nat → (Nat → Nat → PV) → Option α) → Option α) (a_1 : Int) (a_2 : Int) (a_3 : Bool) (a_4 : Int) (a_5 : Int) (a_6 : Int) (a_7 : Bool) (a_8 : Nat) (a_9 : Nat → Nat → PV) (a_10 : Int) (k0 : Option α) (k1 : Option α) : Option α := bif decide ((a_8 : Int) > 2000) then
  k0
 else bif Nat.ble ((0 + a_8) * 1) bound then
  Gframe_Tagged a_1 a_2 a_3 a_4 a_5 a_6 a_10 (0 + a_8) (catf 0 (rowOf 1 []) (a_9))
   (fun r_11 r_12 => Gref10_Tagged a_1 a_2 a_3 a_4 a_5 a_6 a_7 a_8 a_9 a_10
    (bif Nat.ble ((0 + a_8) * 1) bound then
     bif Nat.ble ((0 + (0 + a_8)) * 1) bound then
      bif Nat.ble ((0 + a_8) * 1) bound then
       Gkeep_Frames a_1 a_2 a_6 a_1 a_2 a_6 (0 + (0 + a_8)) (catf 0 (rowOf 1 []) (catf 0 (rowOf 1 []) (a_9))) (0 + a_8) (catf 0 (rowOf 1 []) (a_9))
        (fun r_13 r_14 r_15 r_16 r_17 => bif r_13 then
         k0
        else k1)
      else none /- test -/
     else none /- test -/
    else none /- test -/)
    (fun r_13 r_14 r_15 r_16 r_17 r_18 => Gkeep_Frames_v2 r_13 r_14 0 r_15 r_16 r_17 r_18
     (fun r_19 r_20 => k1))
    (fun r_13 r_14 r_15 r_16 r_17 r_18 r_19 => Gkeep_Frames_v2 r_13 r_14 r_15 r_16 r_17 r_18 r_19
     (fun r_20 r_21 => k1)))
   (fun r_11 r_12 r_13 r_14 r_15 r_16 r_17 r_18 => Gref10_Tagged a_1 a_2 a_3 a_4 a_5 a_6 a_7 a_8 a_9 a_10
    (Gkeep_Frames_v6 r_11 r_12 0 r_13 r_14 r_17 r_18
     (fun r_19 r_20 => k1))
    (fun r_19 r_20 r_21 r_22 r_23 r_24 => Gkeep_Frames_v8 r_11 r_12 0 r_13 r_14 r_19 r_20 0 r_21 r_22 r_17 r_18 r_23 r_24
     (fun r_25 r_26 r_27 r_28 r_29 => bif r_25 then
      bif Nat.ble ((0 + a_8) * 1) bound then
       bif Nat.ble ((0 + (0 + a_8)) * 1) bound then
        bif Nat.ble ((0 + a_8) * 1) bound then
         Gkeep_Frames a_1 a_2 a_6 a_1 a_2 a_6 (0 + (0 + a_8)) (catf 0 (rowOf 1 []) (catf 0 (rowOf 1 []) (a_9))) (0 + a_8) (catf 0 (rowOf 1 []) (a_9))
          (fun r_30 r_31 r_32 r_33 r_34 => bif r_30 then
           k0
          else k1)
        else none /- test -/
       else none /- test -/
      else none /- test -/
     else k1))
    (fun r_19 r_20 r_21 r_22 r_23 r_24 r_25 => Gkeep_Frames_v8 r_11 r_12 0 r_13 r_14 r_19 r_20 r_21 r_22 r_23 r_17 r_18 r_24 r_25
     (fun r_26 r_27 r_28 r_29 r_30 => bif r_26 then
      bif Nat.ble ((0 + a_8) * 1) bound then
       bif Nat.ble ((0 + (0 + a_8)) * 1) bound then
        bif Nat.ble ((0 + a_8) * 1) bound then
         Gkeep_Frames a_1 a_2 a_6 a_1 a_2 a_6 (0 + (0 + a_8)) (catf 0 (rowOf 1 []) (catf 0 (rowOf 1 []) (a_9))) (0 + a_8) (catf 0 (rowOf 1 []) (a_9))
          (fun r_31 r_32 r_33 r_34 r_35 => bif r_31 then
           k0
          else k1)
        else none /- test -/
       else none /- test -/
      else none /- test -/
     else k1)))
   (fun r_11 r_12 r_13 r_14 r_15 r_16 r_17 r_18 r_19 => Gref10_Tagged a_1 a_2 a_3 a_4 a_5 a_6 a_7 a_8 a_9 a_10
    (Gkeep_Frames_v6 r_11 r_12 r_13 r_14 r_15 r_18 r_19
     (fun r_20 r_21 => k1))
    (fun r_20 r_21 r_22 r_23 r_24 r_25 => Gkeep_Frames_v8 r_11 r_12 r_13 r_14 r_15 r_20 r_21 0 r_22 r_23 r_18 r_19 r_24 r_25
     (fun r_26 r_27 r_28 r_29 r_30 => bif r_26 then
      bif Nat.ble ((0 + a_8) * 1) bound then
       bif Nat.ble ((0 + (0 + a_8)) * 1) bound then
        bif Nat.ble ((0 + a_8) * 1) bound then
         Gkeep_Frames a_1 a_2 a_6 a_1 a_2 a_6 (0 + (0 + a_8)) (catf 0 (rowOf 1 []) (catf 0 (rowOf 1 []) (a_9))) (0 + a_8) (catf 0 (rowOf 1 []) (a_9))
          (fun r_31 r_32 r_33 r_34 r_35 => bif r_31 then
           k0
          else k1)
        else none /- test -/
       else none /- test -/
      else none /- test -/
     else k1))
    (fun r_20 r_21 r_22 r_23 r_24 r_25 r_26 => Gkeep_Frames_v8 r_11 r_12 r_13 r_14 r_15 r_20 r_21 r_22 r_23 r_24 r_18 r_19 r_25 r_26
     (fun r_27 r_28 r_29 r_30 r_31 => bif r_27 then
      bif Nat.ble ((0 + a_8) * 1) bound then
       bif Nat.ble ((0 + (0 + a_8)) * 1) bound then
        bif Nat.ble ((0 + a_8) * 1) bound then
         Gkeep_Frames a_1 a_2 a_6 a_1 a_2 a_6 (0 + (0 + a_8)) (catf 0 (rowOf 1 []) (catf 0 (rowOf 1 []) (a_9))) (0 + a_8) (catf 0 (rowOf 1 []) (a_9))
          (fun r_32 r_33 r_34 r_35 r_36 => bif r_32 then
           k0
          else k1)
        else none /- test -/
       else none /- test -/
      else none /- test -/
     else k1)))
 else none /- test -/
def law10_FrameTags {α : Type} (a_1 : Int) (a_2 : Int) (a_3 : Bool) (a_4 : Int) (a_5 : Int) (a_6 : Int) (a_7 : Bool) (a_8 : Nat) (a_9 : Nat → Nat → PV) (a_10 : Int) (k0 : Option α) (k1 : Option α) : Option α := law10_FrameTags_T frame_Tagged ref10_Tagged keep_Frames keep_Frames_v2 keep_Frames_v6 keep_Frames_v8 a_1 a_2 a_3 a_4 a_5 a_6 a_7 a_8 a_9 a_10 k0 k1
def law10_FrameTags_S (Gframe_Tagged : Int → Int → Bool → Int → Int → Int → Int → Nat → (Nat → Nat → PV) → (Nat → (Nat → Nat → PV) → Option Out) → (Int → Int → Int → Int → Nat → (Nat → Nat → PV) → Nat → (Nat → Nat → PV) → Option Out) → (Int → Int → Int → Int → Int → Nat → (Nat → Nat → PV) → Nat → (Nat → Nat → PV) → Option Out) → Option Out) (Gref10_Tagged : Int → Int → Bool → Int → Int → Int → Bool → Nat → (Nat → Nat → PV) → Int → (Option Out) → (Int → Int → Int → Int → Nat → (Nat → Nat → PV) → Option Out) → (Int → Int → Int → Int → Int → Nat → (Nat → Nat → PV) → Option Out) → Option Out) (Gkeep_Frames : Int → Int → Int → Int → Int → Int → Nat → (Nat → Nat → PV) → Nat → (Nat → Nat → PV) → (Bool → Nat → (Nat → Nat → PV) → Nat → (Nat → Nat → PV) → Option Out) → Option Out) (Gkeep_Frames_v2 : Int → Int → Int → Int → Int → Nat → (Nat → Nat → PV) → (Nat → (Nat → Nat → PV) → Option Out) → Option Out) (Gkeep_Frames_v6 : Int → Int → Int → Int → Int → Nat → (Nat → Nat → PV) → (Nat → (Nat → Nat → PV) → Option Out) → Option Out) (Gkeep_Frames_v8 : Int → Int → Int → Int → Int → Int → Int → Int → Int → Int → Nat → (Nat → Nat → PV) → Nat → (Nat → Nat → PV) → (Bool → Nat → (Nat → Nat → PV) → Nat → (Nat → Nat → PV) → Option Out) → Option Out) : List (Nat × Sm) := [(25, yes), (34, smOf [(frame_Tagged_p, fun h k => Gframe_Tagged (gI h 0) (gI h 1) (gB h 2) (gI h 3) (gI h 4) (gI h 5) (gI h 6) (gN h 7) (gF h 8) (fun r0 r1 => k (.tup [.agg [.pv (.val (.int .u64 0)), .pv (.val (.int .u64 0)), .pv (.val (.bool false)), .pv (.val (.int .i64 0)), .pv (.val (.int .i64 0)), .pv (.val (.int .i64 0)), .pv (.val (.slice none 0 0))], .c (.pv (.val (.int .i64 1)))]) [.parr false (.int .u8 .nil) 1 r0 (r1)]) (fun r0 r1 r2 r3 r4 r5 r6 r7 => k (.tup [.agg [.pv (.val (.int .u64 r0)), .pv (.val (.int .u64 r1)), .pv (.val (.bool true)), .pv (.val (.int .i64 0)), .pv (.val (.int .i64 r2)), .pv (.val (.int .i64 r3)), .own 1], .c (.pv (.val (.int .i64 0)))]) [.parr false (.int .u8 .nil) 1 r4 (r5), .parr false (.int .u8 .nil) 1 r6 (r7)]) (fun r0 r1 r2 r3 r4 r5 r6 r7 r8 => k (.tup [.agg [.pv (.val (.int .u64 r0)), .pv (.val (.int .u64 r1)), .pv (.val (.bool true)), .pv (.val (.int .i64 r2)), .pv (.val (.int .i64 r3)), .pv (.val (.int .i64 r4)), .own 1], .c (.pv (.val (.int .i64 0)))]) [.parr false (.int .u8 .nil) 1 r5 (r6), .parr false (.int .u8 .nil) 1 r7 (r8)]))]), (35, smOf [(ref10_Tagged_p, fun h k => Gref10_Tagged (gI h 0) (gI h 1) (gB h 2) (gI h 3) (gI h 4) (gI h 5) (gB h 6) (gN h 7) (gF h 8) (gI h 9) (k (.tup [.agg [.pv (.val (.int .u64 0)), .pv (.val (.int .u64 0)), .pv (.val (.bool false)), .pv (.val (.int .i64 0)), .pv (.val (.int .i64 0)), .pv (.val (.int .i64 0)), .pv (.val (.slice none 0 0))], .c (.pv (.val (.int .i64 1)))]) []) (fun r0 r1 r2 r3 r4 r5 => k (.tup [.agg [.pv (.val (.int .u64 r0)), .pv (.val (.int .u64 r1)), .pv (.val (.bool true)), .pv (.val (.int .i64 0)), .pv (.val (.int .i64 r2)), .pv (.val (.int .i64 r3)), .own 0], .c (.pv (.val (.int .i64 0)))]) [.parr false (.int .u8 .nil) 1 r4 (r5)]) (fun r0 r1 r2 r3 r4 r5 r6 => k (.tup [.agg [.pv (.val (.int .u64 r0)), .pv (.val (.int .u64 r1)), .pv (.val (.bool true)), .pv (.val (.int .i64 r2)), .pv (.val (.int .i64 r3)), .pv (.val (.int .i64 r4)), .own 0], .c (.pv (.val (.int .i64 0)))]) [.parr false (.int .u8 .nil) 1 r5 (r6)]))]), (23, smOf [(keep_Frames_p, fun h k => Gkeep_Frames (gI h 0) (gI h 1) (gI h 2) (gI h 3) (gI h 4) (gI h 5) (gN h 6) (gF h 7) (gN h 8) (gF h 9) (fun r0 r1 r2 r3 r4 => k (.v (.c (.pv (.val (.bool r0))))) [.parr false (.int .u8 .nil) 1 r1 (r2), .parr false (.int .u8 .nil) 1 r3 (r4)])), (keep_Frames_v8_p, fun h k => Gkeep_Frames_v8 (gI h 0) (gI h 1) (gI h 2) (gI h 3) (gI h 4) (gI h 5) (gI h 6) (gI h 7) (gI h 8) (gI h 9) (gN h 10) (gF h 11) (gN h 12) (gF h 13) (fun r0 r1 r2 r3 r4 => k (.v (.c (.pv (.val (.bool r0))))) [.parr false (.int .u8 .nil) 1 r1 (r2), .parr false (.int .u8 .nil) 1 r3 (r4)])), (keep_Frames_v7_p, keep_Frames_v7_F), (keep_Frames_v6_p, fun h k => Gkeep_Frames_v6 (gI h 0) (gI h 1) (gI h 2) (gI h 3) (gI h 4) (gN h 5) (gF h 6) (fun r0 r1 => k (.v (.c (.pv (.val (.bool false))))) [.parr false (.int .u8 .nil) 1 r0 (r1)])), (keep_Frames_v5_p, keep_Frames_v5_F), (keep_Frames_v4_p, keep_Frames_v4_F), (keep_Frames_v3_p, keep_Frames_v3_F), (keep_Frames_v2_p, fun h k => Gkeep_Frames_v2 (gI h 0) (gI h 1) (gI h 2) (gI h 3) (gI h 4) (gN h 5) (gF h 6) (fun r0 r1 => k (.v (.c (.pv (.val (.bool false))))) [.parr false (.int .u8 .nil) 1 r0 (r1)])), (keep_Frames_v1_p, keep_Frames_v1_F)])]
def law10_FrameTags_B (Gframe_Tagged : Int → Int → Bool → Int → Int → Int → Int → Nat → (Nat → Nat → PV) → (Nat → (Nat → Nat → PV) → Option Out) → (Int → Int → Int → Int → Nat → (Nat → Nat → PV) → Nat → (Nat → Nat → PV) → Option Out) → (Int → Int → Int → Int → Int → Nat → (Nat → Nat → PV) → Nat → (Nat → Nat → PV) → Option Out) → Option Out) (Gref10_Tagged : Int → Int → Bool → Int → Int → Int → Bool → Nat → (Nat → Nat → PV) → Int → (Option Out) → (Int → Int → Int → Int → Nat → (Nat → Nat → PV) → Option Out) → (Int → Int → Int → Int → Int → Nat → (Nat → Nat → PV) → Option Out) → Option Out) (Gkeep_Frames : Int → Int → Int → Int → Int → Int → Nat → (Nat → Nat → PV) → Nat → (Nat → Nat → PV) → (Bool → Nat → (Nat → Nat → PV) → Nat → (Nat → Nat → PV) → Option Out) → Option Out) (Gkeep_Frames_v2 : Int → Int → Int → Int → Int → Nat → (Nat → Nat → PV) → (Nat → (Nat → Nat → PV) → Option Out) → Option Out) (Gkeep_Frames_v6 : Int → Int → Int → Int → Int → Nat → (Nat → Nat → PV) → (Nat → (Nat → Nat → PV) → Option Out) → Option Out) (Gkeep_Frames_v8 : Int → Int → Int → Int → Int → Int → Int → Int → Int → Int → Nat → (Nat → Nat → PV) → Nat → (Nat → Nat → PV) → (Bool → Nat → (Nat → Nat → PV) → Nat → (Nat → Nat → PV) → Option Out) → Option Out) : Hooks := []
theorem law10_FrameTags_eq (Gframe_Tagged : Int → Int → Bool → Int → Int → Int → Int → Nat → (Nat → Nat → PV) → (Nat → (Nat → Nat → PV) → Option Out) → (Int → Int → Int → Int → Nat → (Nat → Nat → PV) → Nat → (Nat → Nat → PV) → Option Out) → (Int → Int → Int → Int → Int → Nat → (Nat → Nat → PV) → Nat → (Nat → Nat → PV) → Option Out) → Option Out) (Gref10_Tagged : Int → Int → Bool → Int → Int → Int → Bool → Nat → (Nat → Nat → PV) → Int → (Option Out) → (Int → Int → Int → Int → Nat → (Nat → Nat → PV) → Option Out) → (Int → Int → Int → Int → Int → Nat → (Nat → Nat → PV) → Option Out) → Option Out) (Gkeep_Frames : Int → Int → Int → Int → Int → Int → Nat → (Nat → Nat → PV) → Nat → (Nat → Nat → PV) → (Bool → Nat → (Nat → Nat → PV) → Nat → (Nat → Nat → PV) → Option Out) → Option Out) (Gkeep_Frames_v2 : Int → Int → Int → Int → Int → Nat → (Nat → Nat → PV) → (Nat → (Nat → Nat → PV) → Option Out) → Option Out) (Gkeep_Frames_v6 : Int → Int → Int → Int → Int → Nat → (Nat → Nat → PV) → (Nat → (Nat → Nat → PV) → Option Out) → Option Out) (Gkeep_Frames_v8 : Int → Int → Int → Int → Int → Int → Int → Int → Int → Int → Nat → (Nat → Nat → PV) → Nat → (Nat → Nat → PV) → (Bool → Nat → (Nat → Nat → PV) → Nat → (Nat → Nat → PV) → Option Out) → Option Out) (a_1 : Int) (a_2 : Int) (a_3 : Bool) (a_4 : Int) (a_5 : Int) (a_6 : Int) (a_7 : Bool) (a_8 : Nat) (a_9 : Nat → Nat → PV) (a_10 : Int) (k : FK) : runS tt (has eql) Try.prog.funcs 1152921504606846976 (law10_FrameTags_S Gframe_Tagged Gref10_Tagged Gkeep_Frames Gkeep_Frames_v2 Gkeep_Frames_v6 Gkeep_Frames_v8) (law10_FrameTags_B Gframe_Tagged Gref10_Tagged Gkeep_Frames Gkeep_Frames_v2 Gkeep_Frames_v6 Gkeep_Frames_v8) (has bor) 40 6 [.v (.agg [.pv (.val (.int .u64 a_1)), .pv (.val (.int .u64 a_2)), .pv (.val (.bool a_3)), .pv (.val (.int .i64 a_4)), .pv (.val (.int .i64 a_5)), .pv (.val (.int .i64 a_6)), .pv (.sl a_7 (.int .u8 .nil) 1 a_8 (a_9))]), .v (.c (.pv (.val (.int .i64 a_10))))] [] k = law10_FrameTags_T Gframe_Tagged Gref10_Tagged Gkeep_Frames Gkeep_Frames_v2 Gkeep_Frames_v6 Gkeep_Frames_v8 a_1 a_2 a_3 a_4 a_5 a_6 a_7 a_8 a_9 a_10 (k (.v (.c (.pv (.val (.bool true))))) []) (k (.v (.c (.pv (.val (.bool false))))) []) := by kernel_rfl
def law10_FrameTags_p : PAr := ⟨[.v (.agg [.pv (.int .u64 .h), .pv (.int .u64 .h), .pv (.bool .h), .pv (.int .i64 .h), .pv (.int .i64 .h), .pv (.int .i64 .h), .pv (.sl .h (.int .u8 .nil) 1 .h)]), .v (.c (.pv (.int .i64 .h)))], []⟩
def law10_FrameTags_F (h : List Hole) (k : FK) : Option Out := law10_FrameTags (gI h 0) (gI h 1) (gB h 2) (gI h 3) (gI h 4) (gI h 5) (gB h 6) (gN h 7) (gF h 8) (gI h 9) (k (.v (.c (.pv (.val (.bool true))))) []) (k (.v (.c (.pv (.val (.bool false))))) [])
theorem law10_FrameTags_at (h : List Hole) : CallAt Try.prog 6 (arFill law10_FrameTags_p h).1 (arFill law10_FrameTags_p h).2 (law10_FrameTags_F h) := by
  have e : arFill law10_FrameTags_p h = ([.v (.agg [.pv (.val (.int .u64 (gI h 0))), .pv (.val (.int .u64 (gI h 1))), .pv (.val (.bool (gB h 2))), .pv (.val (.int .i64 (gI h 3))), .pv (.val (.int .i64 (gI h 4))), .pv (.val (.int .i64 (gI h 5))), .pv (.sl (gB h 6) (.int .u8 .nil) 1 (gN h 7) ((gF h 8)))]), .v (.c (.pv (.val (.int .i64 (gI h 9)))))], []) := by kernel_rfl
  rw [e]; exact callAt_of (runS_ok ttOk eqOk mixed (names_ok namesOk) (S := law10_FrameTags_S frame_Tagged ref10_Tagged keep_Frames keep_Frames_v2 keep_Frames_v6 keep_Frames_v8) (sums_cons yes25_ok (sums_cons (smOf_ok (alts_cons frame_Tagged_at alts_nil)) (sums_cons (smOf_ok (alts_cons ref10_Tagged_at alts_nil)) (sums_cons (smOf_ok (alts_cons keep_Frames_at (alts_cons keep_Frames_v8_at (alts_cons keep_Frames_v7_at (alts_cons keep_Frames_v6_at (alts_cons keep_Frames_v5_at (alts_cons keep_Frames_v4_at (alts_cons keep_Frames_v3_at (alts_cons keep_Frames_v2_at (alts_cons keep_Frames_v1_at alts_nil)))))))))) (sums_nil))))) (B := law10_FrameTags_B frame_Tagged ref10_Tagged keep_Frames keep_Frames_v2 keep_Frames_v6 keep_Frames_v8) (hooks_nil) (has bor) 40) fun k => law10_FrameTags_eq frame_Tagged ref10_Tagged keep_Frames keep_Frames_v2 keep_Frames_v6 keep_Frames_v8 _ _ _ _ _ _ _ _ _ _ k
theorem call_ok : CallSem Try.prog (runS tt (has eql) Try.prog.funcs 1152921504606846976 (law10_FrameTags_S frame_Tagged ref10_Tagged keep_Frames keep_Frames_v2 keep_Frames_v6 keep_Frames_v8) (law10_FrameTags_B frame_Tagged ref10_Tagged keep_Frames keep_Frames_v2 keep_Frames_v6 keep_Frames_v8) (has bor) 40) := runS_ok ttOk eqOk mixed (names_ok namesOk) (S := law10_FrameTags_S frame_Tagged ref10_Tagged keep_Frames keep_Frames_v2 keep_Frames_v6 keep_Frames_v8) (sums_cons yes25_ok (sums_cons (smOf_ok (alts_cons frame_Tagged_at alts_nil)) (sums_cons (smOf_ok (alts_cons ref10_Tagged_at alts_nil)) (sums_cons (smOf_ok (alts_cons keep_Frames_at (alts_cons keep_Frames_v8_at (alts_cons keep_Frames_v7_at (alts_cons keep_Frames_v6_at (alts_cons keep_Frames_v5_at (alts_cons keep_Frames_v4_at (alts_cons keep_Frames_v3_at (alts_cons keep_Frames_v2_at (alts_cons keep_Frames_v1_at alts_nil)))))))))) (sums_nil))))) (B := law10_FrameTags_B frame_Tagged ref10_Tagged keep_Frames keep_Frames_v2 keep_Frames_v6 keep_Frames_v8) (hooks_nil) (has bor) 40
theorem law_eq (a_1 : Int) (a_2 : Int) (a_3 : Bool) (a_4 : Int) (a_5 : Int) (a_6 : Int) (a_7 : Bool) (a_8 : Nat) (a_9 : Nat → Nat → PV) (a_10 : Int) (k : FK) : runS tt (has eql) Try.prog.funcs 1152921504606846976 (law10_FrameTags_S frame_Tagged ref10_Tagged keep_Frames keep_Frames_v2 keep_Frames_v6 keep_Frames_v8) (law10_FrameTags_B frame_Tagged ref10_Tagged keep_Frames keep_Frames_v2 keep_Frames_v6 keep_Frames_v8) (has bor) 40 6 [.v (.agg [.pv (.val (.int .u64 a_1)), .pv (.val (.int .u64 a_2)), .pv (.val (.bool a_3)), .pv (.val (.int .i64 a_4)), .pv (.val (.int .i64 a_5)), .pv (.val (.int .i64 a_6)), .pv (.sl a_7 (.int .u8 .nil) 1 a_8 (a_9))]), .v (.c (.pv (.val (.int .i64 a_10))))] [] k = law10_FrameTags a_1 a_2 a_3 a_4 a_5 a_6 a_7 a_8 a_9 a_10 (k (.v (.c (.pv (.val (.bool true))))) []) (k (.v (.c (.pv (.val (.bool false))))) []) := law10_FrameTags_eq frame_Tagged ref10_Tagged keep_Frames keep_Frames_v2 keep_Frames_v6 keep_Frames_v8 a_1 a_2 a_3 a_4 a_5 a_6 a_7 a_8 a_9 a_10 k
end Go.Proofs.Ytampnnhdgnhjaaa.FrameTags

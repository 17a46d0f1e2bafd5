/- FrameCodes: the code of the law and of all that it calls, told by functions over numbers and rows. WRITTEN BY gen.py. -/
import Derived.Test.YtampnnhdgnhjaaaSeat
set_option linter.unusedVariables false
namespace Go.Proofs.Ytampnnhdgnhjaaa.FrameCodes
open Go.Ve
set_option maxRecDepth 100000
theorem wakes_eq (k : AV → List AObj → Option Out) : runS tt (has eql) Try.prog.funcs 100000 [] [] (has bor) 40 25 [] [] k = k (.b true) [] := by kernel_rfl
theorem yes25_ok : SumOk Try.prog 25 yes := SumOk.yes (runS_ok ttOk eqOk mixed (names_ok namesOk) sums_nil hooks_nil (has bor) 40) wakes_eq
/- weirgate/mac.Group -/
def mac_Group_T {α : Type}  (a_1 : Int) (k0 : Bool → Option α) : Option α := bif ((shrI .u64 a_1 48) == 0) then
  k0 ((bits .and .u64 (shrI .u64 a_1 40) 1) == 1)
 else k0 false
def mac_Group {α : Type} (a_1 : Int) (k0 : Bool → Option α) : Option α := mac_Group_T  a_1 k0
def mac_Group_S  : List (Nat × Sm) := [(25, yes)]
def mac_Group_B  : Hooks := []
theorem mac_Group_eq  (a_1 : Int) (k : FK) : runS tt (has eql) Try.prog.funcs 1152921504606846976 (mac_Group_S ) (mac_Group_B ) (has bor) 40 56 [.v (.c (.pv (.val (.int .u64 a_1))))] [] k = mac_Group_T  a_1 (fun r0 => k (.v (.c (.pv (.val (.bool r0))))) []) := by kernel_rfl
def mac_Group_p : PAr := ⟨[.v (.c (.pv (.int .u64 .h)))], []⟩
def mac_Group_F (h : List Hole) (k : FK) : Option Out := mac_Group (gI h 0) (fun r0 => k (.v (.c (.pv (.val (.bool r0))))) [])
theorem mac_Group_at (h : List Hole) : CallAt Try.prog 56 (arFill mac_Group_p h).1 (arFill mac_Group_p h).2 (mac_Group_F h) := by
  have e : arFill mac_Group_p h = ([.v (.c (.pv (.val (.int .u64 (gI h 0)))))], []) := by kernel_rfl
  rw [e]; exact callAt_of (runS_ok ttOk eqOk mixed (names_ok namesOk) (S := mac_Group_S ) (sums_cons yes25_ok (sums_nil)) (B := mac_Group_B ) (hooks_nil) (has bor) 40) fun k => mac_Group_eq  _ k
/- weirgate/frame.room -/
def frame_room_T {α : Type}  (a_1 : Bool) (k0 : Int → Option α) : Option α := bif a_1 then
  k0 1500
 else k0 1504
def frame_room {α : Type} (a_1 : Bool) (k0 : Int → Option α) : Option α := frame_room_T  a_1 k0
def frame_room_S  : List (Nat × Sm) := [(25, yes)]
def frame_room_B  : Hooks := []
theorem frame_room_eq  (a_1 : Bool) (k : FK) : runS tt (has eql) Try.prog.funcs 1152921504606846976 (frame_room_S ) (frame_room_B ) (has bor) 40 76 [.v (.c (.pv (.val (.bool a_1))))] [] k = frame_room_T  a_1 (fun r0 => k (.v (.c (.pv (.val (.int .i64 r0))))) []) := by kernel_rfl
def frame_room_p : PAr := ⟨[.v (.c (.pv (.bool .h)))], []⟩
def frame_room_F (h : List Hole) (k : FK) : Option Out := frame_room (gB h 0) (fun r0 => k (.v (.c (.pv (.val (.int .i64 r0))))) [])
theorem frame_room_at (h : List Hole) : CallAt Try.prog 76 (arFill frame_room_p h).1 (arFill frame_room_p h).2 (frame_room_F h) := by
  have e : arFill frame_room_p h = ([.v (.c (.pv (.val (.bool (gB h 0)))))], []) := by kernel_rfl
  rw [e]; exact callAt_of (runS_ok ttOk eqOk mixed (names_ok namesOk) (S := frame_room_S ) (sums_cons yes25_ok (sums_nil)) (B := frame_room_B ) (hooks_nil) (has bor) 40) fun k => frame_room_eq  _ k
/- weirgate/frame.Good -/
def frame_Good_T {α : Type} (Gmac_Group : Int → (Bool → Option α) → Option α) (Gframe_room : Bool → (Int → Option α) → Option α) (a_1 : Int) (a_2 : Int) (a_3 : Bool) (a_4 : Int) (a_5 : Int) (a_6 : Int) (a_7 : Nat) (a_8 : Nat → Nat → PV) (k0 : Bool → Nat → (Nat → Nat → PV) → Option α) : Option α := bif !((shrI .u64 a_1 48) == 0) then
  k0 false a_7 a_8
 else bif !((shrI .u64 a_2 48) == 0) then
  k0 false a_7 a_8
 else Gmac_Group a_2
  (fun r_9 => bif r_9 then
   k0 false a_7 a_8
  else bif decide (a_6 < 0) then
   k0 false a_7 a_8
  else bif decide (a_6 ≥ 65536) then
   k0 false a_7 a_8
  else bif (a_6 == 33024) then
   k0 false a_7 a_8
  else Gframe_room a_3
   (fun r_10 => bif decide ((a_7 : Int) > r_10) then
    k0 false a_7 a_8
   else bif !a_3 then
    bif (a_4 == 0) then
     k0 (a_5 == 0) a_7 a_8
    else k0 false a_7 a_8
   else bif decide (a_4 ≥ 0) then
    bif decide (a_4 < 8) then
     bif decide (a_5 ≥ 0) then
      k0 (decide (a_5 < 4096)) a_7 a_8
     else k0 false a_7 a_8
    else k0 false a_7 a_8
   else k0 false a_7 a_8))
def frame_Good {α : Type} (a_1 : Int) (a_2 : Int) (a_3 : Bool) (a_4 : Int) (a_5 : Int) (a_6 : Int) (a_7 : Nat) (a_8 : Nat → Nat → PV) (k0 : Bool → Nat → (Nat → Nat → PV) → Option α) : Option α := frame_Good_T mac_Group frame_room a_1 a_2 a_3 a_4 a_5 a_6 a_7 a_8 k0
def frame_Good_S (Gmac_Group : Int → (Bool → Option Out) → Option Out) (Gframe_room : Bool → (Int → Option Out) → Option Out) : List (Nat × Sm) := [(25, yes), (56, smOf [(mac_Group_p, fun h k => Gmac_Group (gI h 0) (fun r0 => k (.v (.c (.pv (.val (.bool r0))))) []))]), (76, smOf [(frame_room_p, fun h k => Gframe_room (gB h 0) (fun r0 => k (.v (.c (.pv (.val (.int .i64 r0))))) []))])]
def frame_Good_B (Gmac_Group : Int → (Bool → Option Out) → Option Out) (Gframe_room : Bool → (Int → Option Out) → Option Out) : Hooks := []
theorem frame_Good_eq (Gmac_Group : Int → (Bool → Option Out) → Option Out) (Gframe_room : Bool → (Int → Option Out) → Option Out) (a_1 : Int) (a_2 : Int) (a_3 : Bool) (a_4 : Int) (a_5 : Int) (a_6 : Int) (a_7 : Nat) (a_8 : Nat → Nat → PV) (k : FK) : runS tt (has eql) Try.prog.funcs 1152921504606846976 (frame_Good_S Gmac_Group Gframe_room) (frame_Good_B Gmac_Group Gframe_room) (has bor) 40 31 [.v (.agg [.pv (.val (.int .u64 a_1)), .pv (.val (.int .u64 a_2)), .pv (.val (.bool a_3)), .pv (.val (.int .i64 a_4)), .pv (.val (.int .i64 a_5)), .pv (.val (.int .i64 a_6)), .own 0])] [.parr false (.int .u8 .nil) 1 a_7 (a_8)] k = frame_Good_T Gmac_Group Gframe_room a_1 a_2 a_3 a_4 a_5 a_6 a_7 a_8 (fun r0 r1 r2 => k (.v (.c (.pv (.val (.bool r0))))) [.parr false (.int .u8 .nil) 1 r1 (r2)]) := by kernel_rfl
def frame_Good_p : PAr := ⟨[.v (.agg [.pv (.int .u64 .h), .pv (.int .u64 .h), .pv (.bool .h), .pv (.int .i64 .h), .pv (.int .i64 .h), .pv (.int .i64 .h), .own 0])], [.parr (.l false) (.int .u8 .nil) 1 .h]⟩
def frame_Good_F (h : List Hole) (k : FK) : Option Out := frame_Good (gI h 0) (gI h 1) (gB h 2) (gI h 3) (gI h 4) (gI h 5) (gN h 6) (gF h 7) (fun r0 r1 r2 => k (.v (.c (.pv (.val (.bool r0))))) [.parr false (.int .u8 .nil) 1 r1 (r2)])
theorem frame_Good_at (h : List Hole) : CallAt Try.prog 31 (arFill frame_Good_p h).1 (arFill frame_Good_p h).2 (frame_Good_F h) := by
  have e : arFill frame_Good_p h = ([.v (.agg [.pv (.val (.int .u64 (gI h 0))), .pv (.val (.int .u64 (gI h 1))), .pv (.val (.bool (gB h 2))), .pv (.val (.int .i64 (gI h 3))), .pv (.val (.int .i64 (gI h 4))), .pv (.val (.int .i64 (gI h 5))), .own 0])], [.parr false (.int .u8 .nil) 1 (gN h 6) ((gF h 7))]) := by kernel_rfl
  rw [e]; exact callAt_of (runS_ok ttOk eqOk mixed (names_ok namesOk) (S := frame_Good_S mac_Group frame_room) (sums_cons yes25_ok (sums_cons (smOf_ok (alts_cons mac_Group_at alts_nil)) (sums_cons (smOf_ok (alts_cons frame_room_at alts_nil)) (sums_nil)))) (B := frame_Good_B mac_Group frame_room) (hooks_nil) (has bor) 40) fun k => frame_Good_eq mac_Group frame_room _ _ _ _ _ _ _ _ k
def e1 (x0 : Int) : Nat → Nat → PV := rowOf 1 [.val (.int .u8 (IntKind.u8.wrap (shrI .i64 x0 8))), .val (.int .u8 (IntKind.u8.wrap x0))]
def e2 (x0 : Int) (x1 : Int) : Nat → Nat → PV := rowOf 1 [.val (.int .u8 (IntKind.u8.wrap (shrI .i64 (bits .or .i64 (shlI .i64 x0 13) x1) 8))), .val (.int .u8 (IntKind.u8.wrap (bits .or .i64 (shlI .i64 x0 13) x1)))]
def e3 (x0 : Int) (x1 : Int) : Nat → Nat → PV := rowOf 1 [.sl false (.int .u8 .nil) 1 2 (rowOf 1 [.val (.int .u8 129), .val (.int .u8 0)]), .sl false (.int .u8 .nil) 1 2 (e2 x0 x1)]
def e4 : Nat → Nat → PV := catf 0 (fun _ j => .val (([.int .u8 0] : List Value).getD j undef)) (rowOf 1 [.val (.int .u8 129), .val (.int .u8 0)])
def e5 (x0 : Int) (x1 : Int) (x2 : Int) (x3 : Int) (x4 : Int) (x5 : Nat) (x6 : Nat → Nat → PV) : Nat → Nat → PV := rowOf 1 [.sl false (.int .u8 .nil) 1 6 (fun j c => pvAt [.pv (.val (.int .u8 (IntKind.u8.wrap (shrI .u64 x0 40)))), .pv (.val (.int .u8 (IntKind.u8.wrap (shrI .u64 x0 32)))), .pv (.val (.int .u8 (IntKind.u8.wrap (shrI .u64 x0 24)))), .pv (.val (.int .u8 (IntKind.u8.wrap (shrI .u64 x0 16)))), .pv (.val (.int .u8 (IntKind.u8.wrap (shrI .u64 x0 8)))), .pv (.val (.int .u8 (IntKind.u8.wrap (shrI .u64 x0 0))))] (0 + j * 1 + c)), .sl false (.int .u8 .nil) 1 6 (fun j c => pvAt [.pv (.val (.int .u8 (IntKind.u8.wrap (shrI .u64 x1 40)))), .pv (.val (.int .u8 (IntKind.u8.wrap (shrI .u64 x1 32)))), .pv (.val (.int .u8 (IntKind.u8.wrap (shrI .u64 x1 24)))), .pv (.val (.int .u8 (IntKind.u8.wrap (shrI .u64 x1 16)))), .pv (.val (.int .u8 (IntKind.u8.wrap (shrI .u64 x1 8)))), .pv (.val (.int .u8 (IntKind.u8.wrap (shrI .u64 x1 0))))] (0 + j * 1 + c)), .sl false (.int .u8 .nil) 1 4 (catf 2 (e4) (e2 x2 x3)), .sl false (.int .u8 .nil) 1 2 (e1 x4), .sl false (.int .u8 .nil) 1 x5 (x6)]
def e6 (x0 : Int) : Nat → Nat → PV := fun j c => pvAt [.pv (.val (.int .u8 (IntKind.u8.wrap (shrI .u64 x0 40)))), .pv (.val (.int .u8 (IntKind.u8.wrap (shrI .u64 x0 32)))), .pv (.val (.int .u8 (IntKind.u8.wrap (shrI .u64 x0 24)))), .pv (.val (.int .u8 (IntKind.u8.wrap (shrI .u64 x0 16)))), .pv (.val (.int .u8 (IntKind.u8.wrap (shrI .u64 x0 8)))), .pv (.val (.int .u8 (IntKind.u8.wrap (shrI .u64 x0 0))))] (0 + j * 1 + c)
def e7 (x0 : Int) (x1 : Int) (x2 : Int) (x3 : Int) (x4 : Int) (x5 : Nat → Nat → PV) : Nat → Nat → PV := catf 18 (catf 16 (catf 12 (catf 6 (e6 x0) (e6 x1)) (catf 2 (e4) (e2 x2 x3))) (e1 x4)) (x5)
def e8 (x0 : Int) (x1 : Int) : Nat → Nat → PV := catf 6 (catf 0 (fun _ j => .val (([.int .u8 0] : List Value).getD j undef)) (e6 x0)) (e6 x1)
def e9 (x0 : Int) (x1 : Int) (x2 : Int) (x3 : Nat) (x4 : Nat → Nat → PV) : Nat → Nat → PV := rowOf 1 [.sl false (.int .u8 .nil) 1 6 (fun j c => pvAt [.pv (.val (.int .u8 (IntKind.u8.wrap (shrI .u64 x0 40)))), .pv (.val (.int .u8 (IntKind.u8.wrap (shrI .u64 x0 32)))), .pv (.val (.int .u8 (IntKind.u8.wrap (shrI .u64 x0 24)))), .pv (.val (.int .u8 (IntKind.u8.wrap (shrI .u64 x0 16)))), .pv (.val (.int .u8 (IntKind.u8.wrap (shrI .u64 x0 8)))), .pv (.val (.int .u8 (IntKind.u8.wrap (shrI .u64 x0 0))))] (0 + j * 1 + c)), .sl false (.int .u8 .nil) 1 6 (fun j c => pvAt [.pv (.val (.int .u8 (IntKind.u8.wrap (shrI .u64 x1 40)))), .pv (.val (.int .u8 (IntKind.u8.wrap (shrI .u64 x1 32)))), .pv (.val (.int .u8 (IntKind.u8.wrap (shrI .u64 x1 24)))), .pv (.val (.int .u8 (IntKind.u8.wrap (shrI .u64 x1 16)))), .pv (.val (.int .u8 (IntKind.u8.wrap (shrI .u64 x1 8)))), .pv (.val (.int .u8 (IntKind.u8.wrap (shrI .u64 x1 0))))] (0 + j * 1 + c)), .val (.slice none 0 0), .sl false (.int .u8 .nil) 1 2 (e1 x2), .sl false (.int .u8 .nil) 1 x3 (x4)]
def e10 (x0 : Int) (x1 : Int) (x2 : Int) (x3 : Nat → Nat → PV) : Nat → Nat → PV := catf 14 (catf 12 (catf 12 (catf 6 (e6 x0) (e6 x1)) (fun _ _ => .val undef)) (e1 x2)) (x3)
/- weirgate/frame.Encode -/
def frame_Encode_T {α : Type} (Gframe_Good : Int → Int → Bool → Int → Int → Int → Nat → (Nat → Nat → PV) → (Bool → Nat → (Nat → Nat → PV) → Option α) → Option α) (a_1 : Int) (a_2 : Int) (a_3 : Bool) (a_4 : Int) (a_5 : Int) (a_6 : Int) (a_7 : Nat) (a_8 : Nat → Nat → PV) (k0 : Nat → (Nat → Nat → PV) → Option α) (k1 : Nat → (Nat → Nat → PV) → Nat → (Nat → Nat → PV) → Option α) : Option α := Gframe_Good a_1 a_2 a_3 a_4 a_5 a_6 a_7 a_8
  (fun r_9 r_10 r_11 => bif !r_9 then
   k0 r_10 r_11
  else bif a_3 then
   bif decide ((IntKind.i64.wrap (18 + (r_10 : Int))) < 0) then
    none /- op makeInterface -/
   else bif decide ((IntKind.i64.wrap (18 + (r_10 : Int))) < 0) then
    none /- op makeInterface -/
   else bif decide ((IntKind.i64.wrap ((IntKind.i64.wrap (18 + (r_10 : Int))) - 0)) > 0) then
    bif (decide (0 ≤ IntKind.i64.wrap ((IntKind.i64.wrap (18 + (r_10 : Int))) - 0)) && decide (IntKind.i64.wrap ((IntKind.i64.wrap (18 + (r_10 : Int))) - 0) ≤ 4611686018427387904)) then
     bif Nat.beq ((IntKind.i64.wrap ((IntKind.i64.wrap (18 + (r_10 : Int))) - 0)).toNat) 0 then
      bif Nat.ble ((18 + r_10) * 1) bound then
       k1 r_10 r_11 (18 + r_10) (e7 a_1 a_2 a_4 a_5 a_6 r_11)
      else none /- test -/
     else bif Nat.ble (((IntKind.i64.wrap ((IntKind.i64.wrap (18 + (r_10 : Int))) - 0)).toNat) * 1) bound then
      bif inb 0 (((IntKind.i64.wrap ((IntKind.i64.wrap (18 + (r_10 : Int))) - 0)).toNat) + 1) then
       bif (Nat.ble 0 ((IntKind.i64.wrap ((IntKind.i64.wrap (18 + (r_10 : Int))) - 0)).toNat) && true) then
        bif Nat.ble ((18 + r_10) * 1) bound then
         k1 r_10 r_11 (18 + r_10) (catf 18 (catf 16 (catf 12 (e8 a_1 a_2) (catf 2 (e4) (e2 a_4 a_5))) (e1 a_6)) (r_11))
        else none /- test -/
       else none /- test -/
      else none /- test -/
     else none /- test -/
    else none /- test -/
   else bif Nat.ble ((18 + r_10) * 1) bound then
    k1 r_10 r_11 (18 + r_10) (e7 a_1 a_2 a_4 a_5 a_6 r_11)
   else none /- test -/
  else bif decide ((IntKind.i64.wrap (14 + (r_10 : Int))) < 0) then
   none /- op makeInterface -/
  else bif decide ((IntKind.i64.wrap (14 + (r_10 : Int))) < 0) then
   none /- op makeInterface -/
  else bif decide ((IntKind.i64.wrap ((IntKind.i64.wrap (14 + (r_10 : Int))) - 0)) > 0) then
   bif (decide (0 ≤ IntKind.i64.wrap ((IntKind.i64.wrap (14 + (r_10 : Int))) - 0)) && decide (IntKind.i64.wrap ((IntKind.i64.wrap (14 + (r_10 : Int))) - 0) ≤ 4611686018427387904)) then
    bif Nat.beq ((IntKind.i64.wrap ((IntKind.i64.wrap (14 + (r_10 : Int))) - 0)).toNat) 0 then
     bif Nat.ble ((14 + r_10) * 1) bound then
      k1 r_10 r_11 (14 + r_10) (e10 a_1 a_2 a_6 r_11)
     else none /- test -/
    else bif Nat.ble (((IntKind.i64.wrap ((IntKind.i64.wrap (14 + (r_10 : Int))) - 0)).toNat) * 1) bound then
     bif inb 0 (((IntKind.i64.wrap ((IntKind.i64.wrap (14 + (r_10 : Int))) - 0)).toNat) + 1) then
      bif (Nat.ble 0 ((IntKind.i64.wrap ((IntKind.i64.wrap (14 + (r_10 : Int))) - 0)).toNat) && true) then
       bif Nat.ble ((14 + r_10) * 1) bound then
        k1 r_10 r_11 (14 + r_10) (catf 14 (catf 12 (catf 12 (e8 a_1 a_2) (fun _ _ => .val undef)) (e1 a_6)) (r_11))
       else none /- test -/
      else none /- test -/
     else none /- test -/
    else none /- test -/
   else none /- test -/
  else bif Nat.ble ((14 + r_10) * 1) bound then
   k1 r_10 r_11 (14 + r_10) (e10 a_1 a_2 a_6 r_11)
  else none /- test -/)
def frame_Encode {α : Type} (a_1 : Int) (a_2 : Int) (a_3 : Bool) (a_4 : Int) (a_5 : Int) (a_6 : Int) (a_7 : Nat) (a_8 : Nat → Nat → PV) (k0 : Nat → (Nat → Nat → PV) → Option α) (k1 : Nat → (Nat → Nat → PV) → Nat → (Nat → Nat → PV) → Option α) : Option α := frame_Encode_T frame_Good a_1 a_2 a_3 a_4 a_5 a_6 a_7 a_8 k0 k1
def frame_Encode_S (Gframe_Good : Int → Int → Bool → Int → Int → Int → Nat → (Nat → Nat → PV) → (Bool → Nat → (Nat → Nat → PV) → Option Out) → Option Out) : List (Nat × Sm) := [(25, yes), (31, smOf [(frame_Good_p, fun h k => Gframe_Good (gI h 0) (gI h 1) (gB h 2) (gI h 3) (gI h 4) (gI h 5) (gN h 6) (gF h 7) (fun r0 r1 r2 => k (.v (.c (.pv (.val (.bool r0))))) [.parr false (.int .u8 .nil) 1 r1 (r2)]))])]
def frame_Encode_B (Gframe_Good : Int → Int → Bool → Int → Int → Int → Nat → (Nat → Nat → PV) → (Bool → Nat → (Nat → Nat → PV) → Option Out) → Option Out) : Hooks := []
theorem frame_Encode_eq (Gframe_Good : Int → Int → Bool → Int → Int → Int → Nat → (Nat → Nat → PV) → (Bool → Nat → (Nat → Nat → PV) → Option Out) → Option Out) (a_1 : Int) (a_2 : Int) (a_3 : Bool) (a_4 : Int) (a_5 : Int) (a_6 : Int) (a_7 : Nat) (a_8 : Nat → Nat → PV) (k : FK) : runS tt (has eql) Try.prog.funcs 1152921504606846976 (frame_Encode_S Gframe_Good) (frame_Encode_B Gframe_Good) (has bor) 40 26 [.v (.agg [.pv (.val (.int .u64 a_1)), .pv (.val (.int .u64 a_2)), .pv (.val (.bool a_3)), .pv (.val (.int .i64 a_4)), .pv (.val (.int .i64 a_5)), .pv (.val (.int .i64 a_6)), .own 0])] [.parr false (.int .u8 .nil) 1 a_7 (a_8)] k = frame_Encode_T Gframe_Good a_1 a_2 a_3 a_4 a_5 a_6 a_7 a_8 (fun r0 r1 => k (.tup [.c (.pv (.val (.slice none 0 0))), .c (.pv (.val (.int .i64 11)))]) [.parr false (.int .u8 .nil) 1 r0 (r1)]) (fun r0 r1 r2 r3 => k (.tup [.c (.own 1), .c (.pv (.val (.int .i64 0)))]) [.parr true (.int .u8 .nil) 1 r0 (r1), .parr false (.int .u8 .nil) 1 r2 (r3)]) := by kernel_rfl
def frame_Encode_p : PAr := ⟨[.v (.agg [.pv (.int .u64 .h), .pv (.int .u64 .h), .pv (.bool .h), .pv (.int .i64 .h), .pv (.int .i64 .h), .pv (.int .i64 .h), .own 0])], [.parr (.l false) (.int .u8 .nil) 1 .h]⟩
def frame_Encode_F (h : List Hole) (k : FK) : Option Out := frame_Encode (gI h 0) (gI h 1) (gB h 2) (gI h 3) (gI h 4) (gI h 5) (gN h 6) (gF h 7) (fun r0 r1 => k (.tup [.c (.pv (.val (.slice none 0 0))), .c (.pv (.val (.int .i64 11)))]) [.parr false (.int .u8 .nil) 1 r0 (r1)]) (fun r0 r1 r2 r3 => k (.tup [.c (.own 1), .c (.pv (.val (.int .i64 0)))]) [.parr true (.int .u8 .nil) 1 r0 (r1), .parr false (.int .u8 .nil) 1 r2 (r3)])
theorem frame_Encode_at (h : List Hole) : CallAt Try.prog 26 (arFill frame_Encode_p h).1 (arFill frame_Encode_p h).2 (frame_Encode_F h) := by
  have e : arFill frame_Encode_p h = ([.v (.agg [.pv (.val (.int .u64 (gI h 0))), .pv (.val (.int .u64 (gI h 1))), .pv (.val (.bool (gB h 2))), .pv (.val (.int .i64 (gI h 3))), .pv (.val (.int .i64 (gI h 4))), .pv (.val (.int .i64 (gI h 5))), .own 0])], [.parr false (.int .u8 .nil) 1 (gN h 6) ((gF h 7))]) := by kernel_rfl
  rw [e]; exact callAt_of (runS_ok ttOk eqOk mixed (names_ok namesOk) (S := frame_Encode_S frame_Good) (sums_cons yes25_ok (sums_cons (smOf_ok (alts_cons frame_Good_at alts_nil)) (sums_nil))) (B := frame_Encode_B frame_Good) (hooks_nil) (has bor) 40) fun k => frame_Encode_eq frame_Good _ _ _ _ _ _ _ _ k
/- weirgate/weirgateref09.Group -/
def ref09_Group_T {α : Type}  (a_1 : Int) (k0 : Bool → Option α) : Option α := bif decide (a_1 < 281474976710656) then
  k0 ((bits .and .u64 (shrI .u64 a_1 40) 1) == 1)
 else k0 false
def ref09_Group {α : Type} (a_1 : Int) (k0 : Bool → Option α) : Option α := ref09_Group_T  a_1 k0
def ref09_Group_S  : List (Nat × Sm) := [(25, yes)]
def ref09_Group_B  : Hooks := []
theorem ref09_Group_eq  (a_1 : Int) (k : FK) : runS tt (has eql) Try.prog.funcs 1152921504606846976 (ref09_Group_S ) (ref09_Group_B ) (has bor) 40 61 [.v (.c (.pv (.val (.int .u64 a_1))))] [] k = ref09_Group_T  a_1 (fun r0 => k (.v (.c (.pv (.val (.bool r0))))) []) := by kernel_rfl
def ref09_Group_p : PAr := ⟨[.v (.c (.pv (.int .u64 .h)))], []⟩
def ref09_Group_F (h : List Hole) (k : FK) : Option Out := ref09_Group (gI h 0) (fun r0 => k (.v (.c (.pv (.val (.bool r0))))) [])
theorem ref09_Group_at (h : List Hole) : CallAt Try.prog 61 (arFill ref09_Group_p h).1 (arFill ref09_Group_p h).2 (ref09_Group_F h) := by
  have e : arFill ref09_Group_p h = ([.v (.c (.pv (.val (.int .u64 (gI h 0)))))], []) := by kernel_rfl
  rw [e]; exact callAt_of (runS_ok ttOk eqOk mixed (names_ok namesOk) (S := ref09_Group_S ) (sums_cons yes25_ok (sums_nil)) (B := ref09_Group_B ) (hooks_nil) (has bor) 40) fun k => ref09_Group_eq  _ k
/- weirgate/weirgateref10.Good -/
def ref10_Good_T {α : Type} (Gref09_Group : Int → (Bool → Option α) → Option α) (a_1 : Int) (a_2 : Int) (a_3 : Bool) (a_4 : Int) (a_5 : Int) (a_6 : Int) (a_7 : Bool) (a_8 : Nat) (a_9 : Nat → Nat → PV) (k0 : Bool → Option α) : Option α := bif a_3 then
  bif !(decide (a_1 < 281474976710656)) then
   k0 false
  else bif !(decide (a_2 < 281474976710656)) then
   k0 false
  else Gref09_Group a_2
   (fun r_10 => bif r_10 then
    k0 false
   else bif decide (a_6 < 0) then
    k0 false
   else bif decide (a_6 > 65535) then
    k0 false
   else bif (a_6 == 33024) then
    k0 false
   else bif decide ((a_8 : Int) > 1500) then
    k0 false
   else bif !a_3 then
    bif (a_4 == 0) then
     k0 (a_5 == 0)
    else k0 false
   else bif decide (a_4 ≥ 0) then
    bif decide (a_4 ≤ 7) then
     bif decide (a_5 ≥ 0) then
      k0 (decide (a_5 ≤ 4095))
     else k0 false
    else k0 false
   else k0 false)
 else bif !(decide (a_1 < 281474976710656)) then
  k0 false
 else bif !(decide (a_2 < 281474976710656)) then
  k0 false
 else Gref09_Group a_2
  (fun r_10 => bif r_10 then
   k0 false
  else bif decide (a_6 < 0) then
   k0 false
  else bif decide (a_6 > 65535) then
   k0 false
  else bif (a_6 == 33024) then
   k0 false
  else bif decide ((a_8 : Int) > 1504) then
   k0 false
  else bif !a_3 then
   bif (a_4 == 0) then
    k0 (a_5 == 0)
   else k0 false
  else bif decide (a_4 ≥ 0) then
   bif decide (a_4 ≤ 7) then
    bif decide (a_5 ≥ 0) then
     k0 (decide (a_5 ≤ 4095))
    else k0 false
   else k0 false
  else k0 false)
def ref10_Good {α : Type} (a_1 : Int) (a_2 : Int) (a_3 : Bool) (a_4 : Int) (a_5 : Int) (a_6 : Int) (a_7 : Bool) (a_8 : Nat) (a_9 : Nat → Nat → PV) (k0 : Bool → Option α) : Option α := ref10_Good_T ref09_Group a_1 a_2 a_3 a_4 a_5 a_6 a_7 a_8 a_9 k0
def ref10_Good_S (Gref09_Group : Int → (Bool → Option Out) → Option Out) : List (Nat × Sm) := [(25, yes), (61, smOf [(ref09_Group_p, fun h k => Gref09_Group (gI h 0) (fun r0 => k (.v (.c (.pv (.val (.bool r0))))) []))])]
def ref10_Good_B (Gref09_Group : Int → (Bool → Option Out) → Option Out) : Hooks := []
theorem ref10_Good_eq (Gref09_Group : Int → (Bool → Option Out) → Option Out) (a_1 : Int) (a_2 : Int) (a_3 : Bool) (a_4 : Int) (a_5 : Int) (a_6 : Int) (a_7 : Bool) (a_8 : Nat) (a_9 : Nat → Nat → PV) (k : FK) : runS tt (has eql) Try.prog.funcs 1152921504606846976 (ref10_Good_S Gref09_Group) (ref10_Good_B Gref09_Group) (has bor) 40 32 [.v (.agg [.pv (.val (.int .u64 a_1)), .pv (.val (.int .u64 a_2)), .pv (.val (.bool a_3)), .pv (.val (.int .i64 a_4)), .pv (.val (.int .i64 a_5)), .pv (.val (.int .i64 a_6)), .pv (.sl a_7 (.int .u8 .nil) 1 a_8 (a_9))])] [] k = ref10_Good_T Gref09_Group a_1 a_2 a_3 a_4 a_5 a_6 a_7 a_8 a_9 (fun r0 => k (.v (.c (.pv (.val (.bool r0))))) []) := by kernel_rfl
def ref10_Good_p : PAr := ⟨[.v (.agg [.pv (.int .u64 .h), .pv (.int .u64 .h), .pv (.bool .h), .pv (.int .i64 .h), .pv (.int .i64 .h), .pv (.int .i64 .h), .pv (.sl .h (.int .u8 .nil) 1 .h)])], []⟩
def ref10_Good_F (h : List Hole) (k : FK) : Option Out := ref10_Good (gI h 0) (gI h 1) (gB h 2) (gI h 3) (gI h 4) (gI h 5) (gB h 6) (gN h 7) (gF h 8) (fun r0 => k (.v (.c (.pv (.val (.bool r0))))) [])
theorem ref10_Good_at (h : List Hole) : CallAt Try.prog 32 (arFill ref10_Good_p h).1 (arFill ref10_Good_p h).2 (ref10_Good_F h) := by
  have e : arFill ref10_Good_p h = ([.v (.agg [.pv (.val (.int .u64 (gI h 0))), .pv (.val (.int .u64 (gI h 1))), .pv (.val (.bool (gB h 2))), .pv (.val (.int .i64 (gI h 3))), .pv (.val (.int .i64 (gI h 4))), .pv (.val (.int .i64 (gI h 5))), .pv (.sl (gB h 6) (.int .u8 .nil) 1 (gN h 7) ((gF h 8)))])], []) := by kernel_rfl
  rw [e]; exact callAt_of (runS_ok ttOk eqOk mixed (names_ok namesOk) (S := ref10_Good_S ref09_Group) (sums_cons yes25_ok (sums_cons (smOf_ok (alts_cons ref09_Group_at alts_nil)) (sums_nil))) (B := ref10_Good_B ref09_Group) (hooks_nil) (has bor) 40) fun k => ref10_Good_eq ref09_Group _ _ _ _ _ _ _ _ _ k
def e11 (x0 : Int) : Nat → Nat → PV := rowOf 1 [.val (.int .u8 (IntKind.u8.wrap (shrI .u64 x0 40))), .val (.int .u8 (IntKind.u8.wrap (shrI .u64 x0 32))), .val (.int .u8 (IntKind.u8.wrap (shrI .u64 x0 24))), .val (.int .u8 (IntKind.u8.wrap (shrI .u64 x0 16))), .val (.int .u8 (IntKind.u8.wrap (shrI .u64 x0 8))), .val (.int .u8 (IntKind.u8.wrap x0))]
def e12 (x0 : Int) : Nat → Nat → PV := rowOf 1 [.val (.int .u8 (IntKind.u8.wrap (IntKind.i64.wrap (x0.tdiv 256)))), .val (.int .u8 (IntKind.u8.wrap (x0.tmod 256)))]
def e13 (x0 : Int) (x1 : Int) : Int := IntKind.u8.wrap (IntKind.i64.wrap ((IntKind.i64.wrap ((IntKind.i64.wrap (x0 * 8192)) + x1)).tdiv 256))
def e14 (x0 : Int) (x1 : Int) : Nat → Nat → PV := rowOf 1 [.val (.int .u8 (e13 x0 x1)), .val (.int .u8 (IntKind.u8.wrap ((IntKind.i64.wrap ((IntKind.i64.wrap (x0 * 8192)) + x1)).tmod 256)))]
def e15 (x0 : Int) (x1 : Int) (x2 : Int) (x3 : Int) : Nat → Nat → PV := catf 14 (catf 12 (catf 6 (e11 x0) (e11 x1)) (rowOf 1 [.val (.int .u8 129), .val (.int .u8 0)])) (e14 x2 x3)
/- weirgate/weirgateref10.Encode -/
def ref10_Encode_T {α : Type} (Gref10_Good : Int → Int → Bool → Int → Int → Int → Bool → Nat → (Nat → Nat → PV) → (Bool → Option α) → Option α) (a_1 : Int) (a_2 : Int) (a_3 : Bool) (a_4 : Int) (a_5 : Int) (a_6 : Int) (a_7 : Bool) (a_8 : Nat) (a_9 : Nat → Nat → PV) (k0 : Option α) (k1 : Nat → (Nat → Nat → PV) → Option α) : Option α := Gref10_Good a_1 a_2 a_3 a_4 a_5 a_6 a_7 a_8 a_9
  (fun r_10 => bif !r_10 then
   k0
  else bif a_3 then
   bif Nat.ble ((18 + a_8) * 1) bound then
    k1 (18 + a_8) (catf 18 (catf 16 (e15 a_1 a_2 a_4 a_5) (e12 a_6)) (a_9))
   else none /- test -/
  else bif Nat.ble ((14 + a_8) * 1) bound then
   k1 (14 + a_8) (catf 14 (catf 12 (catf 6 (e11 a_1) (e11 a_2)) (e12 a_6)) (a_9))
  else none /- test -/)
def ref10_Encode {α : Type} (a_1 : Int) (a_2 : Int) (a_3 : Bool) (a_4 : Int) (a_5 : Int) (a_6 : Int) (a_7 : Bool) (a_8 : Nat) (a_9 : Nat → Nat → PV) (k0 : Option α) (k1 : Nat → (Nat → Nat → PV) → Option α) : Option α := ref10_Encode_T ref10_Good a_1 a_2 a_3 a_4 a_5 a_6 a_7 a_8 a_9 k0 k1
def ref10_Encode_S (Gref10_Good : Int → Int → Bool → Int → Int → Int → Bool → Nat → (Nat → Nat → PV) → (Bool → Option Out) → Option Out) : List (Nat × Sm) := [(25, yes), (32, smOf [(ref10_Good_p, fun h k => Gref10_Good (gI h 0) (gI h 1) (gB h 2) (gI h 3) (gI h 4) (gI h 5) (gB h 6) (gN h 7) (gF h 8) (fun r0 => k (.v (.c (.pv (.val (.bool r0))))) []))])]
def ref10_Encode_B (Gref10_Good : Int → Int → Bool → Int → Int → Int → Bool → Nat → (Nat → Nat → PV) → (Bool → Option Out) → Option Out) : Hooks := []
theorem ref10_Encode_eq (Gref10_Good : Int → Int → Bool → Int → Int → Int → Bool → Nat → (Nat → Nat → PV) → (Bool → Option Out) → Option Out) (a_1 : Int) (a_2 : Int) (a_3 : Bool) (a_4 : Int) (a_5 : Int) (a_6 : Int) (a_7 : Bool) (a_8 : Nat) (a_9 : Nat → Nat → PV) (k : FK) : runS tt (has eql) Try.prog.funcs 1152921504606846976 (ref10_Encode_S Gref10_Good) (ref10_Encode_B Gref10_Good) (has bor) 40 28 [.v (.agg [.pv (.val (.int .u64 a_1)), .pv (.val (.int .u64 a_2)), .pv (.val (.bool a_3)), .pv (.val (.int .i64 a_4)), .pv (.val (.int .i64 a_5)), .pv (.val (.int .i64 a_6)), .pv (.sl a_7 (.int .u8 .nil) 1 a_8 (a_9))])] [] k = ref10_Encode_T Gref10_Good a_1 a_2 a_3 a_4 a_5 a_6 a_7 a_8 a_9 (k (.tup [.c (.pv (.val (.slice none 0 0))), .c (.pv (.val (.int .i64 11)))]) []) (fun r0 r1 => k (.tup [.c (.own 0), .c (.pv (.val (.int .i64 0)))]) [.parr false (.int .u8 .nil) 1 r0 (r1)]) := by kernel_rfl
def ref10_Encode_p : PAr := ⟨[.v (.agg [.pv (.int .u64 .h), .pv (.int .u64 .h), .pv (.bool .h), .pv (.int .i64 .h), .pv (.int .i64 .h), .pv (.int .i64 .h), .pv (.sl .h (.int .u8 .nil) 1 .h)])], []⟩
def ref10_Encode_F (h : List Hole) (k : FK) : Option Out := ref10_Encode (gI h 0) (gI h 1) (gB h 2) (gI h 3) (gI h 4) (gI h 5) (gB h 6) (gN h 7) (gF h 8) (k (.tup [.c (.pv (.val (.slice none 0 0))), .c (.pv (.val (.int .i64 11)))]) []) (fun r0 r1 => k (.tup [.c (.own 0), .c (.pv (.val (.int .i64 0)))]) [.parr false (.int .u8 .nil) 1 r0 (r1)])
theorem ref10_Encode_at (h : List Hole) : CallAt Try.prog 28 (arFill ref10_Encode_p h).1 (arFill ref10_Encode_p h).2 (ref10_Encode_F h) := by
  have e : arFill ref10_Encode_p h = ([.v (.agg [.pv (.val (.int .u64 (gI h 0))), .pv (.val (.int .u64 (gI h 1))), .pv (.val (.bool (gB h 2))), .pv (.val (.int .i64 (gI h 3))), .pv (.val (.int .i64 (gI h 4))), .pv (.val (.int .i64 (gI h 5))), .pv (.sl (gB h 6) (.int .u8 .nil) 1 (gN h 7) ((gF h 8)))])], []) := by kernel_rfl
  rw [e]; exact callAt_of (runS_ok ttOk eqOk mixed (names_ok namesOk) (S := ref10_Encode_S ref10_Good) (sums_cons yes25_ok (sums_cons (smOf_ok (alts_cons ref10_Good_at alts_nil)) (sums_nil))) (B := ref10_Encode_B ref10_Good) (hooks_nil) (has bor) 40) fun k => ref10_Encode_eq ref10_Good _ _ _ _ _ _ _ _ _ k
def e16 (x0 : Nat → Nat → PV) : Int := bits .or .u64 (shlI .u64 (bits .or .u64 0 (IntKind.u64.wrap (numOf (x0 0 0)))) 8) (IntKind.u64.wrap (numOf (x0 1 0)))
def e17 (x0 : Nat → Nat → PV) : Int := bits .or .u64 (shlI .u64 (bits .or .u64 (shlI .u64 (e16 x0) 8) (IntKind.u64.wrap (numOf (x0 2 0)))) 8) (IntKind.u64.wrap (numOf (x0 3 0)))
def e18 (x0 : Nat → Nat → PV) : Int := bits .or .u64 (shlI .u64 (bits .or .u64 (shlI .u64 (e17 x0) 8) (IntKind.u64.wrap (numOf (x0 4 0)))) 8) (IntKind.u64.wrap (numOf (x0 5 0)))
def e19 (x0 : Nat → Nat → PV) : Int := bits .or .u64 (shlI .u64 (bits .or .u64 0 (IntKind.u64.wrap (numOf (x0 6 0)))) 8) (IntKind.u64.wrap (numOf (x0 7 0)))
def e20 (x0 : Nat → Nat → PV) : Int := bits .or .u64 (shlI .u64 (bits .or .u64 (shlI .u64 (e19 x0) 8) (IntKind.u64.wrap (numOf (x0 8 0)))) 8) (IntKind.u64.wrap (numOf (x0 9 0)))
def e21 (x0 : Nat → Nat → PV) : Int := bits .or .u64 (shlI .u64 (bits .or .u64 (shlI .u64 (e20 x0) 8) (IntKind.u64.wrap (numOf (x0 10 0)))) 8) (IntKind.u64.wrap (numOf (x0 11 0)))
def e22 (x0 : Nat → Nat → PV) : Int := bits .or .i64 (shlI .i64 (IntKind.i64.wrap (numOf (x0 12 0))) 8) (IntKind.i64.wrap (numOf (x0 13 0)))
def e23 (x0 : Nat → Nat → PV) : Int := bits .or .i64 (shlI .i64 (IntKind.i64.wrap (numOf (x0 14 0))) 8) (IntKind.i64.wrap (numOf (x0 15 0)))
def e24 (x0 : Nat → Nat → PV) : Int := bits .or .i64 (shlI .i64 (IntKind.i64.wrap (numOf (x0 16 0))) 8) (IntKind.i64.wrap (numOf (x0 17 0)))
/- weirgate/frame.Parse -/
def frame_Parse_T {α : Type} (Gframe_Good : Int → Int → Bool → Int → Int → Int → Nat → (Nat → Nat → PV) → (Bool → Nat → (Nat → Nat → PV) → Option α) → Option α) (a_1 : Nat) (a_2 : Nat → Nat → PV) (k0 : Nat → (Nat → Nat → PV) → Option α) (k1 : Int → Int → Int → Int → Int → Nat → (Nat → Nat → PV) → Nat → (Nat → Nat → PV) → Option α) (k2 : Int → Int → Int → Nat → (Nat → Nat → PV) → Nat → (Nat → Nat → PV) → Option α) : Option α := bif decide ((a_1 : Int) < 14) then
  k0 a_1 a_2
 else bif inb 6 (a_1 + 1) then
  bif inb 12 (a_1 + 1) then
   bif inb (a_1 : Int) (a_1 + 1) then
    bif decide (12 ≤ (a_1 : Int)) then
     bif inb 0 (a_1 - 12) then
      bif inb 1 (a_1 - 12) then
       bif ((e22 a_2) == 33024) then
        bif decide (((a_1 - 12 : Nat) : Int) < 6) then
         k0 a_1 a_2
        else bif inb ((a_1 - 12 : Nat) : Int) ((a_1 - 12) + 1) then
         bif decide (2 ≤ ((a_1 - 12 : Nat) : Int)) then
          bif inb 0 ((a_1 - 12) - 2) then
           bif inb 1 ((a_1 - 12) - 2) then
            bif inb ((a_1 - 12 : Nat) : Int) ((a_1 - 12) + 1) then
             bif decide (4 ≤ ((a_1 - 12 : Nat) : Int)) then
              bif inb 0 ((a_1 - 12) - 4) then
               bif inb 1 ((a_1 - 12) - 4) then
                bif inb (((a_1 - 12) - 4 : Nat) : Int) (((a_1 - 12) - 4) + 1) then
                 bif decide (2 ≤ (((a_1 - 12) - 4 : Nat) : Int)) then
                  bif Nat.ble ((0 + (((a_1 - 12) - 4) - 2)) * 1) bound then
                   Gframe_Good (e18 a_2) (e21 a_2) true (shrI .i64 (e23 a_2) 13) (bits .and .i64 (e23 a_2) 8191) (e24 a_2) (0 + (((a_1 - 12) - 4) - 2)) (catf 0 (rowOf 1 []) (fun j c => (a_2) (18 + j) c))
                    (fun r_3 r_4 r_5 => bif !r_3 then
                     k0 a_1 a_2
                    else k1 (e18 a_2) (e21 a_2) (shrI .i64 (e23 a_2) 13) (bits .and .i64 (e23 a_2) 8191) (e24 a_2) a_1 a_2 r_4 r_5)
                  else none /- test -/
                 else none /- test -/
                else none /- test -/
               else none /- test -/
              else none /- test -/
             else none /- test -/
            else none /- test -/
           else none /- test -/
          else none /- test -/
         else none /- test -/
        else none /- test -/
       else bif inb 0 (a_1 - 12) then
        bif inb 1 (a_1 - 12) then
         bif inb ((a_1 - 12 : Nat) : Int) ((a_1 - 12) + 1) then
          bif decide (2 ≤ ((a_1 - 12 : Nat) : Int)) then
           bif Nat.ble ((0 + ((a_1 - 12) - 2)) * 1) bound then
            Gframe_Good (e18 a_2) (e21 a_2) false 0 0 (e22 a_2) (0 + ((a_1 - 12) - 2)) (catf 0 (rowOf 1 []) (fun j c => (a_2) (14 + j) c))
             (fun r_3 r_4 r_5 => bif !r_3 then
              k0 a_1 a_2
             else k2 (e18 a_2) (e21 a_2) (e22 a_2) a_1 a_2 r_4 r_5)
           else none /- test -/
          else none /- test -/
         else none /- test -/
        else none /- test -/
       else none /- test -/
      else none /- test -/
     else none /- test -/
    else none /- test -/
   else none /- test -/
  else none /- test -/
 else none /- test -/
def frame_Parse {α : Type} (a_1 : Nat) (a_2 : Nat → Nat → PV) (k0 : Nat → (Nat → Nat → PV) → Option α) (k1 : Int → Int → Int → Int → Int → Nat → (Nat → Nat → PV) → Nat → (Nat → Nat → PV) → Option α) (k2 : Int → Int → Int → Nat → (Nat → Nat → PV) → Nat → (Nat → Nat → PV) → Option α) : Option α := frame_Parse_T frame_Good a_1 a_2 k0 k1 k2
def frame_Parse_S (Gframe_Good : Int → Int → Bool → Int → Int → Int → Nat → (Nat → Nat → PV) → (Bool → Nat → (Nat → Nat → PV) → Option Out) → Option Out) : List (Nat × Sm) := [(25, yes), (31, smOf [(frame_Good_p, fun h k => Gframe_Good (gI h 0) (gI h 1) (gB h 2) (gI h 3) (gI h 4) (gI h 5) (gN h 6) (gF h 7) (fun r0 r1 r2 => k (.v (.c (.pv (.val (.bool r0))))) [.parr false (.int .u8 .nil) 1 r1 (r2)]))])]
def frame_Parse_B (Gframe_Good : Int → Int → Bool → Int → Int → Int → Nat → (Nat → Nat → PV) → (Bool → Nat → (Nat → Nat → PV) → Option Out) → Option Out) : Hooks := []
theorem frame_Parse_eq (Gframe_Good : Int → Int → Bool → Int → Int → Int → Nat → (Nat → Nat → PV) → (Bool → Nat → (Nat → Nat → PV) → Option Out) → Option Out) (a_1 : Nat) (a_2 : Nat → Nat → PV) (k : FK) : runS tt (has eql) Try.prog.funcs 1152921504606846976 (frame_Parse_S Gframe_Good) (frame_Parse_B Gframe_Good) (has bor) 40 29 [.v (.c (.own 0))] [.parr false (.int .u8 .nil) 1 a_1 (a_2)] k = frame_Parse_T Gframe_Good a_1 a_2 (fun r0 r1 => k (.tup [.agg [.pv (.val (.int .u64 0)), .pv (.val (.int .u64 0)), .pv (.val (.bool false)), .pv (.val (.int .i64 0)), .pv (.val (.int .i64 0)), .pv (.val (.int .i64 0)), .pv (.val (.slice none 0 0))], .c (.pv (.val (.int .i64 11)))]) [.parr false (.int .u8 .nil) 1 r0 (r1)]) (fun r0 r1 r2 r3 r4 r5 r6 r7 r8 => k (.tup [.agg [.pv (.val (.int .u64 r0)), .pv (.val (.int .u64 r1)), .pv (.val (.bool true)), .pv (.val (.int .i64 r2)), .pv (.val (.int .i64 r3)), .pv (.val (.int .i64 r4)), .own 1], .c (.pv (.val (.int .i64 0)))]) [.parr false (.int .u8 .nil) 1 r5 (r6), .parr false (.int .u8 .nil) 1 r7 (r8)]) (fun r0 r1 r2 r3 r4 r5 r6 => k (.tup [.agg [.pv (.val (.int .u64 r0)), .pv (.val (.int .u64 r1)), .pv (.val (.bool false)), .pv (.val (.int .i64 0)), .pv (.val (.int .i64 0)), .pv (.val (.int .i64 r2)), .own 1], .c (.pv (.val (.int .i64 0)))]) [.parr false (.int .u8 .nil) 1 r3 (r4), .parr false (.int .u8 .nil) 1 r5 (r6)]) := by kernel_rfl
def frame_Parse_p : PAr := ⟨[.v (.c (.own 0))], [.parr (.l false) (.int .u8 .nil) 1 .h]⟩
def frame_Parse_F (h : List Hole) (k : FK) : Option Out := frame_Parse (gN h 0) (gF h 1) (fun r0 r1 => k (.tup [.agg [.pv (.val (.int .u64 0)), .pv (.val (.int .u64 0)), .pv (.val (.bool false)), .pv (.val (.int .i64 0)), .pv (.val (.int .i64 0)), .pv (.val (.int .i64 0)), .pv (.val (.slice none 0 0))], .c (.pv (.val (.int .i64 11)))]) [.parr false (.int .u8 .nil) 1 r0 (r1)]) (fun r0 r1 r2 r3 r4 r5 r6 r7 r8 => k (.tup [.agg [.pv (.val (.int .u64 r0)), .pv (.val (.int .u64 r1)), .pv (.val (.bool true)), .pv (.val (.int .i64 r2)), .pv (.val (.int .i64 r3)), .pv (.val (.int .i64 r4)), .own 1], .c (.pv (.val (.int .i64 0)))]) [.parr false (.int .u8 .nil) 1 r5 (r6), .parr false (.int .u8 .nil) 1 r7 (r8)]) (fun r0 r1 r2 r3 r4 r5 r6 => k (.tup [.agg [.pv (.val (.int .u64 r0)), .pv (.val (.int .u64 r1)), .pv (.val (.bool false)), .pv (.val (.int .i64 0)), .pv (.val (.int .i64 0)), .pv (.val (.int .i64 r2)), .own 1], .c (.pv (.val (.int .i64 0)))]) [.parr false (.int .u8 .nil) 1 r3 (r4), .parr false (.int .u8 .nil) 1 r5 (r6)])
theorem frame_Parse_at (h : List Hole) : CallAt Try.prog 29 (arFill frame_Parse_p h).1 (arFill frame_Parse_p h).2 (frame_Parse_F h) := by
  have e : arFill frame_Parse_p h = ([.v (.c (.own 0))], [.parr false (.int .u8 .nil) 1 (gN h 0) ((gF h 1))]) := by kernel_rfl
  rw [e]; exact callAt_of (runS_ok ttOk eqOk mixed (names_ok namesOk) (S := frame_Parse_S frame_Good) (sums_cons yes25_ok (sums_cons (smOf_ok (alts_cons frame_Good_at alts_nil)) (sums_nil))) (B := frame_Parse_B frame_Good) (hooks_nil) (has bor) 40) fun k => frame_Parse_eq frame_Good _ _ k
def e25 (x0 : Nat → Nat → PV) : Int := IntKind.u64.wrap ((shlI .u64 (IntKind.u64.wrap (0 + (IntKind.u64.wrap (numOf (x0 0 0))))) 8) + (IntKind.u64.wrap (numOf (x0 1 0))))
def e26 (x0 : Nat → Nat → PV) : Int := shlI .u64 (IntKind.u64.wrap ((shlI .u64 (e25 x0) 8) + (IntKind.u64.wrap (numOf (x0 2 0))))) 8
def e27 (x0 : Nat → Nat → PV) : Int := IntKind.u64.wrap ((shlI .u64 (IntKind.u64.wrap ((e26 x0) + (IntKind.u64.wrap (numOf (x0 3 0))))) 8) + (IntKind.u64.wrap (numOf (x0 4 0))))
def e28 (x0 : Nat → Nat → PV) : Int := IntKind.u64.wrap ((shlI .u64 (IntKind.u64.wrap (0 + (IntKind.u64.wrap (numOf (x0 6 0))))) 8) + (IntKind.u64.wrap (numOf (x0 7 0))))
def e29 (x0 : Nat → Nat → PV) : Int := shlI .u64 (IntKind.u64.wrap ((shlI .u64 (e28 x0) 8) + (IntKind.u64.wrap (numOf (x0 8 0))))) 8
def e30 (x0 : Nat → Nat → PV) : Int := IntKind.u64.wrap ((shlI .u64 (IntKind.u64.wrap ((e29 x0) + (IntKind.u64.wrap (numOf (x0 9 0))))) 8) + (IntKind.u64.wrap (numOf (x0 10 0))))
def e31 (x0 : Nat → Nat → PV) : Int := IntKind.i64.wrap ((IntKind.i64.wrap ((IntKind.i64.wrap (numOf (x0 14 0))) * 256)) + (IntKind.i64.wrap (numOf (x0 15 0))))
def e32 (x0 : Nat → Nat → PV) : Int := IntKind.i64.wrap ((IntKind.i64.wrap ((IntKind.i64.wrap (numOf (x0 16 0))) * 256)) + (IntKind.i64.wrap (numOf (x0 17 0))))
/- weirgate/weirgateref10.Good -/
def ref10_Good_v1_T {α : Type} (Gref09_Group : Int → (Bool → Option α) → Option α) (a_1 : Int) (a_2 : Int) (a_3 : Int) (a_4 : Int) (a_5 : Int) (a_6 : Nat) (a_7 : Nat → Nat → PV) (k0 : Bool → Nat → (Nat → Nat → PV) → Option α) : Option α := bif !(decide (a_1 < 281474976710656)) then
  k0 false a_6 a_7
 else bif !(decide (a_2 < 281474976710656)) then
  k0 false a_6 a_7
 else Gref09_Group a_2
  (fun r_8 => bif r_8 then
   k0 false a_6 a_7
  else bif decide (a_5 < 0) then
   k0 false a_6 a_7
  else bif decide (a_5 > 65535) then
   k0 false a_6 a_7
  else bif (a_5 == 33024) then
   k0 false a_6 a_7
  else bif decide ((a_6 : Int) > 1500) then
   k0 false a_6 a_7
  else bif decide (a_3 ≥ 0) then
   bif decide (a_3 ≤ 7) then
    bif decide (a_4 ≥ 0) then
     k0 (decide (a_4 ≤ 4095)) a_6 a_7
    else k0 false a_6 a_7
   else k0 false a_6 a_7
  else k0 false a_6 a_7)
def ref10_Good_v1 {α : Type} (a_1 : Int) (a_2 : Int) (a_3 : Int) (a_4 : Int) (a_5 : Int) (a_6 : Nat) (a_7 : Nat → Nat → PV) (k0 : Bool → Nat → (Nat → Nat → PV) → Option α) : Option α := ref10_Good_v1_T ref09_Group a_1 a_2 a_3 a_4 a_5 a_6 a_7 k0
def ref10_Good_v1_S (Gref09_Group : Int → (Bool → Option Out) → Option Out) : List (Nat × Sm) := [(25, yes), (61, smOf [(ref09_Group_p, fun h k => Gref09_Group (gI h 0) (fun r0 => k (.v (.c (.pv (.val (.bool r0))))) []))])]
def ref10_Good_v1_B (Gref09_Group : Int → (Bool → Option Out) → Option Out) : Hooks := []
theorem ref10_Good_v1_eq (Gref09_Group : Int → (Bool → Option Out) → Option Out) (a_1 : Int) (a_2 : Int) (a_3 : Int) (a_4 : Int) (a_5 : Int) (a_6 : Nat) (a_7 : Nat → Nat → PV) (k : FK) : runS tt (has eql) Try.prog.funcs 1152921504606846976 (ref10_Good_v1_S Gref09_Group) (ref10_Good_v1_B Gref09_Group) (has bor) 40 32 [.v (.agg [.pv (.val (.int .u64 a_1)), .pv (.val (.int .u64 a_2)), .pv (.val (.bool true)), .pv (.val (.int .i64 a_3)), .pv (.val (.int .i64 a_4)), .pv (.val (.int .i64 a_5)), .own 0])] [.parr false (.int .u8 .nil) 1 a_6 (a_7)] k = ref10_Good_v1_T Gref09_Group a_1 a_2 a_3 a_4 a_5 a_6 a_7 (fun r0 r1 r2 => k (.v (.c (.pv (.val (.bool r0))))) [.parr false (.int .u8 .nil) 1 r1 (r2)]) := by kernel_rfl
def ref10_Good_v1_p : PAr := ⟨[.v (.agg [.pv (.int .u64 .h), .pv (.int .u64 .h), .pv (.bool (.l true)), .pv (.int .i64 .h), .pv (.int .i64 .h), .pv (.int .i64 .h), .own 0])], [.parr (.l false) (.int .u8 .nil) 1 .h]⟩
def ref10_Good_v1_F (h : List Hole) (k : FK) : Option Out := ref10_Good_v1 (gI h 0) (gI h 1) (gI h 2) (gI h 3) (gI h 4) (gN h 5) (gF h 6) (fun r0 r1 r2 => k (.v (.c (.pv (.val (.bool r0))))) [.parr false (.int .u8 .nil) 1 r1 (r2)])
theorem ref10_Good_v1_at (h : List Hole) : CallAt Try.prog 32 (arFill ref10_Good_v1_p h).1 (arFill ref10_Good_v1_p h).2 (ref10_Good_v1_F h) := by
  have e : arFill ref10_Good_v1_p h = ([.v (.agg [.pv (.val (.int .u64 (gI h 0))), .pv (.val (.int .u64 (gI h 1))), .pv (.val (.bool true)), .pv (.val (.int .i64 (gI h 2))), .pv (.val (.int .i64 (gI h 3))), .pv (.val (.int .i64 (gI h 4))), .own 0])], [.parr false (.int .u8 .nil) 1 (gN h 5) ((gF h 6))]) := by kernel_rfl
  rw [e]; exact callAt_of (runS_ok ttOk eqOk mixed (names_ok namesOk) (S := ref10_Good_v1_S ref09_Group) (sums_cons yes25_ok (sums_cons (smOf_ok (alts_cons ref09_Group_at alts_nil)) (sums_nil))) (B := ref10_Good_v1_B ref09_Group) (hooks_nil) (has bor) 40) fun k => ref10_Good_v1_eq ref09_Group _ _ _ _ _ _ _ k
def e33 (x0 : Nat → Nat → PV) : Int := IntKind.i64.wrap ((IntKind.i64.wrap ((IntKind.i64.wrap (numOf (x0 12 0))) * 256)) + (IntKind.i64.wrap (numOf (x0 13 0))))
/- weirgate/weirgateref10.Good -/
def ref10_Good_v2_T {α : Type} (Gref09_Group : Int → (Bool → Option α) → Option α) (a_1 : Int) (a_2 : Int) (a_3 : Int) (a_4 : Nat) (a_5 : Nat → Nat → PV) (k0 : Nat → (Nat → Nat → PV) → Option α) (k1 : Nat → (Nat → Nat → PV) → Option α) : Option α := bif !(decide (a_1 < 281474976710656)) then
  k0 a_4 a_5
 else bif !(decide (a_2 < 281474976710656)) then
  k0 a_4 a_5
 else Gref09_Group a_2
  (fun r_6 => bif r_6 then
   k0 a_4 a_5
  else bif decide (a_3 < 0) then
   k0 a_4 a_5
  else bif decide (a_3 > 65535) then
   k0 a_4 a_5
  else bif (a_3 == 33024) then
   k0 a_4 a_5
  else bif decide ((a_4 : Int) > 1504) then
   k0 a_4 a_5
  else k1 a_4 a_5)
def ref10_Good_v2 {α : Type} (a_1 : Int) (a_2 : Int) (a_3 : Int) (a_4 : Nat) (a_5 : Nat → Nat → PV) (k0 : Nat → (Nat → Nat → PV) → Option α) (k1 : Nat → (Nat → Nat → PV) → Option α) : Option α := ref10_Good_v2_T ref09_Group a_1 a_2 a_3 a_4 a_5 k0 k1
def ref10_Good_v2_S (Gref09_Group : Int → (Bool → Option Out) → Option Out) : List (Nat × Sm) := [(25, yes), (61, smOf [(ref09_Group_p, fun h k => Gref09_Group (gI h 0) (fun r0 => k (.v (.c (.pv (.val (.bool r0))))) []))])]
def ref10_Good_v2_B (Gref09_Group : Int → (Bool → Option Out) → Option Out) : Hooks := []
theorem ref10_Good_v2_eq (Gref09_Group : Int → (Bool → Option Out) → Option Out) (a_1 : Int) (a_2 : Int) (a_3 : Int) (a_4 : Nat) (a_5 : Nat → Nat → PV) (k : FK) : runS tt (has eql) Try.prog.funcs 1152921504606846976 (ref10_Good_v2_S Gref09_Group) (ref10_Good_v2_B Gref09_Group) (has bor) 40 32 [.v (.agg [.pv (.val (.int .u64 a_1)), .pv (.val (.int .u64 a_2)), .pv (.val (.bool false)), .pv (.val (.int .i64 0)), .pv (.val (.int .i64 0)), .pv (.val (.int .i64 a_3)), .own 0])] [.parr false (.int .u8 .nil) 1 a_4 (a_5)] k = ref10_Good_v2_T Gref09_Group a_1 a_2 a_3 a_4 a_5 (fun r0 r1 => k (.v (.c (.pv (.val (.bool false))))) [.parr false (.int .u8 .nil) 1 r0 (r1)]) (fun r0 r1 => k (.v (.c (.pv (.val (.bool true))))) [.parr false (.int .u8 .nil) 1 r0 (r1)]) := by kernel_rfl
def ref10_Good_v2_p : PAr := ⟨[.v (.agg [.pv (.int .u64 .h), .pv (.int .u64 .h), .pv (.bool (.l false)), .pv (.int .i64 (.l 0)), .pv (.int .i64 (.l 0)), .pv (.int .i64 .h), .own 0])], [.parr (.l false) (.int .u8 .nil) 1 .h]⟩
def ref10_Good_v2_F (h : List Hole) (k : FK) : Option Out := ref10_Good_v2 (gI h 0) (gI h 1) (gI h 2) (gN h 3) (gF h 4) (fun r0 r1 => k (.v (.c (.pv (.val (.bool false))))) [.parr false (.int .u8 .nil) 1 r0 (r1)]) (fun r0 r1 => k (.v (.c (.pv (.val (.bool true))))) [.parr false (.int .u8 .nil) 1 r0 (r1)])
theorem ref10_Good_v2_at (h : List Hole) : CallAt Try.prog 32 (arFill ref10_Good_v2_p h).1 (arFill ref10_Good_v2_p h).2 (ref10_Good_v2_F h) := by
  have e : arFill ref10_Good_v2_p h = ([.v (.agg [.pv (.val (.int .u64 (gI h 0))), .pv (.val (.int .u64 (gI h 1))), .pv (.val (.bool false)), .pv (.val (.int .i64 0)), .pv (.val (.int .i64 0)), .pv (.val (.int .i64 (gI h 2))), .own 0])], [.parr false (.int .u8 .nil) 1 (gN h 3) ((gF h 4))]) := by kernel_rfl
  rw [e]; exact callAt_of (runS_ok ttOk eqOk mixed (names_ok namesOk) (S := ref10_Good_v2_S ref09_Group) (sums_cons yes25_ok (sums_cons (smOf_ok (alts_cons ref09_Group_at alts_nil)) (sums_nil))) (B := ref10_Good_v2_B ref09_Group) (hooks_nil) (has bor) 40) fun k => ref10_Good_v2_eq ref09_Group _ _ _ _ _ k
/- weirgate/weirgateref10.Parse -/
def ref10_Parse_T {α : Type} (Gref10_Good_v1 : Int → Int → Int → Int → Int → Nat → (Nat → Nat → PV) → (Bool → Nat → (Nat → Nat → PV) → Option α) → Option α) (Gref10_Good_v2 : Int → Int → Int → Nat → (Nat → Nat → PV) → (Nat → (Nat → Nat → PV) → Option α) → (Nat → (Nat → Nat → PV) → Option α) → Option α) (a_1 : Bool) (a_2 : Nat) (a_3 : Nat → Nat → PV) (k0 : Option α) (k1 : Int → Int → Int → Int → Int → Nat → (Nat → Nat → PV) → Option α) (k2 : Int → Int → Int → Nat → (Nat → Nat → PV) → Option α) : Option α := bif decide ((a_2 : Int) < 14) then
  k0
 else bif inb 6 (a_2 + 1) then
  bif inb 12 (a_2 + 1) then
   bif inb 12 a_2 then
    bif ((numOf (a_3 12 0)) == 129) then
     bif inb 13 a_2 then
      bif ((numOf (a_3 13 0)) == 0) then
       bif decide ((a_2 : Int) < 18) then
        k0
       else bif inb 14 a_2 then
        bif inb 15 a_2 then
         bif inb 16 a_2 then
          bif inb 17 a_2 then
           bif inb (a_2 : Int) (a_2 + 1) then
            bif decide (18 ≤ (a_2 : Int)) then
             bif Nat.ble ((0 + (a_2 - 18)) * 1) bound then
              Gref10_Good_v1 (IntKind.u64.wrap ((shlI .u64 (e27 a_3) 8) + (IntKind.u64.wrap (numOf (a_3 5 0))))) (IntKind.u64.wrap ((shlI .u64 (e30 a_3) 8) + (IntKind.u64.wrap (numOf (a_3 11 0))))) (IntKind.i64.wrap ((e31 a_3).tdiv 8192)) ((e31 a_3).tmod 8192) (e32 a_3) (0 + (a_2 - 18)) (catf 0 (rowOf 1 []) (fun j c => (a_3) (18 + j) c))
               (fun r_4 r_5 r_6 => bif !r_4 then
                k0
               else k1 (IntKind.u64.wrap ((shlI .u64 (e27 a_3) 8) + (IntKind.u64.wrap (numOf (a_3 5 0))))) (IntKind.u64.wrap ((shlI .u64 (e30 a_3) 8) + (IntKind.u64.wrap (numOf (a_3 11 0))))) (IntKind.i64.wrap ((e31 a_3).tdiv 8192)) ((e31 a_3).tmod 8192) (e32 a_3) r_5 r_6)
             else none /- test -/
            else none /- test -/
           else none /- test -/
          else none /- test -/
         else none /- test -/
        else none /- test -/
       else none /- test -/
      else bif inb 12 a_2 then
       bif inb 13 a_2 then
        bif inb (a_2 : Int) (a_2 + 1) then
         bif decide (14 ≤ (a_2 : Int)) then
          bif Nat.ble ((0 + (a_2 - 14)) * 1) bound then
           Gref10_Good_v2 (IntKind.u64.wrap ((shlI .u64 (e27 a_3) 8) + (IntKind.u64.wrap (numOf (a_3 5 0))))) (IntKind.u64.wrap ((shlI .u64 (e30 a_3) 8) + (IntKind.u64.wrap (numOf (a_3 11 0))))) (e33 a_3) (0 + (a_2 - 14)) (catf 0 (rowOf 1 []) (fun j c => (a_3) (14 + j) c))
            (fun r_4 r_5 => k0)
            (fun r_4 r_5 => k2 (IntKind.u64.wrap ((shlI .u64 (e27 a_3) 8) + (IntKind.u64.wrap (numOf (a_3 5 0))))) (IntKind.u64.wrap ((shlI .u64 (e30 a_3) 8) + (IntKind.u64.wrap (numOf (a_3 11 0))))) (e33 a_3) r_4 r_5)
          else none /- test -/
         else none /- test -/
        else none /- test -/
       else none /- test -/
      else none /- test -/
     else none /- test -/
    else bif inb 12 a_2 then
     bif inb 13 a_2 then
      bif inb (a_2 : Int) (a_2 + 1) then
       bif decide (14 ≤ (a_2 : Int)) then
        bif Nat.ble ((0 + (a_2 - 14)) * 1) bound then
         Gref10_Good_v2 (IntKind.u64.wrap ((shlI .u64 (e27 a_3) 8) + (IntKind.u64.wrap (numOf (a_3 5 0))))) (IntKind.u64.wrap ((shlI .u64 (e30 a_3) 8) + (IntKind.u64.wrap (numOf (a_3 11 0))))) (e33 a_3) (0 + (a_2 - 14)) (catf 0 (rowOf 1 []) (fun j c => (a_3) (14 + j) c))
          (fun r_4 r_5 => k0)
          (fun r_4 r_5 => k2 (IntKind.u64.wrap ((shlI .u64 (e27 a_3) 8) + (IntKind.u64.wrap (numOf (a_3 5 0))))) (IntKind.u64.wrap ((shlI .u64 (e30 a_3) 8) + (IntKind.u64.wrap (numOf (a_3 11 0))))) (e33 a_3) r_4 r_5)
        else none /- test -/
       else none /- test -/
      else none /- test -/
     else none /- test -/
    else none /- test -/
   else none /- test -/
  else none /- test -/
 else none /- test -/
def ref10_Parse {α : Type} (a_1 : Bool) (a_2 : Nat) (a_3 : Nat → Nat → PV) (k0 : Option α) (k1 : Int → Int → Int → Int → Int → Nat → (Nat → Nat → PV) → Option α) (k2 : Int → Int → Int → Nat → (Nat → Nat → PV) → Option α) : Option α := ref10_Parse_T ref10_Good_v1 ref10_Good_v2 a_1 a_2 a_3 k0 k1 k2
def ref10_Parse_S (Gref10_Good_v1 : Int → Int → Int → Int → Int → Nat → (Nat → Nat → PV) → (Bool → Nat → (Nat → Nat → PV) → Option Out) → Option Out) (Gref10_Good_v2 : Int → Int → Int → Nat → (Nat → Nat → PV) → (Nat → (Nat → Nat → PV) → Option Out) → (Nat → (Nat → Nat → PV) → Option Out) → Option Out) : List (Nat × Sm) := [(25, yes), (32, smOf [(ref10_Good_p, ref10_Good_F), (ref10_Good_v1_p, fun h k => Gref10_Good_v1 (gI h 0) (gI h 1) (gI h 2) (gI h 3) (gI h 4) (gN h 5) (gF h 6) (fun r0 r1 r2 => k (.v (.c (.pv (.val (.bool r0))))) [.parr false (.int .u8 .nil) 1 r1 (r2)])), (ref10_Good_v2_p, fun h k => Gref10_Good_v2 (gI h 0) (gI h 1) (gI h 2) (gN h 3) (gF h 4) (fun r0 r1 => k (.v (.c (.pv (.val (.bool false))))) [.parr false (.int .u8 .nil) 1 r0 (r1)]) (fun r0 r1 => k (.v (.c (.pv (.val (.bool true))))) [.parr false (.int .u8 .nil) 1 r0 (r1)]))])]
def ref10_Parse_B (Gref10_Good_v1 : Int → Int → Int → Int → Int → Nat → (Nat → Nat → PV) → (Bool → Nat → (Nat → Nat → PV) → Option Out) → Option Out) (Gref10_Good_v2 : Int → Int → Int → Nat → (Nat → Nat → PV) → (Nat → (Nat → Nat → PV) → Option Out) → (Nat → (Nat → Nat → PV) → Option Out) → Option Out) : Hooks := []
theorem ref10_Parse_eq (Gref10_Good_v1 : Int → Int → Int → Int → Int → Nat → (Nat → Nat → PV) → (Bool → Nat → (Nat → Nat → PV) → Option Out) → Option Out) (Gref10_Good_v2 : Int → Int → Int → Nat → (Nat → Nat → PV) → (Nat → (Nat → Nat → PV) → Option Out) → (Nat → (Nat → Nat → PV) → Option Out) → Option Out) (a_1 : Bool) (a_2 : Nat) (a_3 : Nat → Nat → PV) (k : FK) : runS tt (has eql) Try.prog.funcs 1152921504606846976 (ref10_Parse_S Gref10_Good_v1 Gref10_Good_v2) (ref10_Parse_B Gref10_Good_v1 Gref10_Good_v2) (has bor) 40 30 [.v (.c (.pv (.sl a_1 (.int .u8 .nil) 1 a_2 (a_3))))] [] k = ref10_Parse_T Gref10_Good_v1 Gref10_Good_v2 a_1 a_2 a_3 (k (.tup [.agg [.pv (.val (.int .u64 0)), .pv (.val (.int .u64 0)), .pv (.val (.bool false)), .pv (.val (.int .i64 0)), .pv (.val (.int .i64 0)), .pv (.val (.int .i64 0)), .pv (.val (.slice none 0 0))], .c (.pv (.val (.int .i64 11)))]) []) (fun r0 r1 r2 r3 r4 r5 r6 => k (.tup [.agg [.pv (.val (.int .u64 r0)), .pv (.val (.int .u64 r1)), .pv (.val (.bool true)), .pv (.val (.int .i64 r2)), .pv (.val (.int .i64 r3)), .pv (.val (.int .i64 r4)), .own 0], .c (.pv (.val (.int .i64 0)))]) [.parr false (.int .u8 .nil) 1 r5 (r6)]) (fun r0 r1 r2 r3 r4 => k (.tup [.agg [.pv (.val (.int .u64 r0)), .pv (.val (.int .u64 r1)), .pv (.val (.bool false)), .pv (.val (.int .i64 0)), .pv (.val (.int .i64 0)), .pv (.val (.int .i64 r2)), .own 0], .c (.pv (.val (.int .i64 0)))]) [.parr false (.int .u8 .nil) 1 r3 (r4)]) := by kernel_rfl
def ref10_Parse_p : PAr := ⟨[.v (.c (.pv (.sl .h (.int .u8 .nil) 1 .h)))], []⟩
def ref10_Parse_F (h : List Hole) (k : FK) : Option Out := ref10_Parse (gB h 0) (gN h 1) (gF h 2) (k (.tup [.agg [.pv (.val (.int .u64 0)), .pv (.val (.int .u64 0)), .pv (.val (.bool false)), .pv (.val (.int .i64 0)), .pv (.val (.int .i64 0)), .pv (.val (.int .i64 0)), .pv (.val (.slice none 0 0))], .c (.pv (.val (.int .i64 11)))]) []) (fun r0 r1 r2 r3 r4 r5 r6 => k (.tup [.agg [.pv (.val (.int .u64 r0)), .pv (.val (.int .u64 r1)), .pv (.val (.bool true)), .pv (.val (.int .i64 r2)), .pv (.val (.int .i64 r3)), .pv (.val (.int .i64 r4)), .own 0], .c (.pv (.val (.int .i64 0)))]) [.parr false (.int .u8 .nil) 1 r5 (r6)]) (fun r0 r1 r2 r3 r4 => k (.tup [.agg [.pv (.val (.int .u64 r0)), .pv (.val (.int .u64 r1)), .pv (.val (.bool false)), .pv (.val (.int .i64 0)), .pv (.val (.int .i64 0)), .pv (.val (.int .i64 r2)), .own 0], .c (.pv (.val (.int .i64 0)))]) [.parr false (.int .u8 .nil) 1 r3 (r4)])
theorem ref10_Parse_at (h : List Hole) : CallAt Try.prog 30 (arFill ref10_Parse_p h).1 (arFill ref10_Parse_p h).2 (ref10_Parse_F h) := by
  have e : arFill ref10_Parse_p h = ([.v (.c (.pv (.sl (gB h 0) (.int .u8 .nil) 1 (gN h 1) ((gF h 2)))))], []) := by kernel_rfl
  rw [e]; exact callAt_of (runS_ok ttOk eqOk mixed (names_ok namesOk) (S := ref10_Parse_S ref10_Good_v1 ref10_Good_v2) (sums_cons yes25_ok (sums_cons (smOf_ok (alts_cons ref10_Good_at (alts_cons ref10_Good_v1_at (alts_cons ref10_Good_v2_at alts_nil)))) (sums_nil))) (B := ref10_Parse_B ref10_Good_v1 ref10_Good_v2) (hooks_nil) (has bor) 40) fun k => ref10_Parse_eq ref10_Good_v1 ref10_Good_v2 _ _ _ k
/- weirgate/frame.Good -/
def frame_Good_v1_T {α : Type} (Gmac_Group : Int → (Bool → Option α) → Option α) (Gframe_room : Bool → (Int → Option α) → Option α) (a_1 : Int) (a_2 : Int) (a_3 : Bool) (a_4 : Int) (a_5 : Int) (a_6 : Int) (a_7 : Bool) (a_8 : Nat) (a_9 : Nat → Nat → PV) (k0 : Bool → Option α) : Option α := bif !((shrI .u64 a_1 48) == 0) then
  k0 false
 else bif !((shrI .u64 a_2 48) == 0) then
  k0 false
 else Gmac_Group a_2
  (fun r_10 => bif r_10 then
   k0 false
  else bif decide (a_6 < 0) then
   k0 false
  else bif decide (a_6 ≥ 65536) then
   k0 false
  else bif (a_6 == 33024) then
   k0 false
  else Gframe_room a_3
   (fun r_11 => bif decide ((a_8 : Int) > r_11) then
    k0 false
   else bif !a_3 then
    bif (a_4 == 0) then
     k0 (a_5 == 0)
    else k0 false
   else bif decide (a_4 ≥ 0) then
    bif decide (a_4 < 8) then
     bif decide (a_5 ≥ 0) then
      k0 (decide (a_5 < 4096))
     else k0 false
    else k0 false
   else k0 false))
def frame_Good_v1 {α : Type} (a_1 : Int) (a_2 : Int) (a_3 : Bool) (a_4 : Int) (a_5 : Int) (a_6 : Int) (a_7 : Bool) (a_8 : Nat) (a_9 : Nat → Nat → PV) (k0 : Bool → Option α) : Option α := frame_Good_v1_T mac_Group frame_room a_1 a_2 a_3 a_4 a_5 a_6 a_7 a_8 a_9 k0
def frame_Good_v1_S (Gmac_Group : Int → (Bool → Option Out) → Option Out) (Gframe_room : Bool → (Int → Option Out) → Option Out) : List (Nat × Sm) := [(25, yes), (56, smOf [(mac_Group_p, fun h k => Gmac_Group (gI h 0) (fun r0 => k (.v (.c (.pv (.val (.bool r0))))) []))]), (76, smOf [(frame_room_p, fun h k => Gframe_room (gB h 0) (fun r0 => k (.v (.c (.pv (.val (.int .i64 r0))))) []))])]
def frame_Good_v1_B (Gmac_Group : Int → (Bool → Option Out) → Option Out) (Gframe_room : Bool → (Int → Option Out) → Option Out) : Hooks := []
theorem frame_Good_v1_eq (Gmac_Group : Int → (Bool → Option Out) → Option Out) (Gframe_room : Bool → (Int → Option Out) → Option Out) (a_1 : Int) (a_2 : Int) (a_3 : Bool) (a_4 : Int) (a_5 : Int) (a_6 : Int) (a_7 : Bool) (a_8 : Nat) (a_9 : Nat → Nat → PV) (k : FK) : runS tt (has eql) Try.prog.funcs 1152921504606846976 (frame_Good_v1_S Gmac_Group Gframe_room) (frame_Good_v1_B Gmac_Group Gframe_room) (has bor) 40 31 [.v (.agg [.pv (.val (.int .u64 a_1)), .pv (.val (.int .u64 a_2)), .pv (.val (.bool a_3)), .pv (.val (.int .i64 a_4)), .pv (.val (.int .i64 a_5)), .pv (.val (.int .i64 a_6)), .pv (.sl a_7 (.int .u8 .nil) 1 a_8 (a_9))])] [] k = frame_Good_v1_T Gmac_Group Gframe_room a_1 a_2 a_3 a_4 a_5 a_6 a_7 a_8 a_9 (fun r0 => k (.v (.c (.pv (.val (.bool r0))))) []) := by kernel_rfl
def frame_Good_v1_p : PAr := ⟨[.v (.agg [.pv (.int .u64 .h), .pv (.int .u64 .h), .pv (.bool .h), .pv (.int .i64 .h), .pv (.int .i64 .h), .pv (.int .i64 .h), .pv (.sl .h (.int .u8 .nil) 1 .h)])], []⟩
def frame_Good_v1_F (h : List Hole) (k : FK) : Option Out := frame_Good_v1 (gI h 0) (gI h 1) (gB h 2) (gI h 3) (gI h 4) (gI h 5) (gB h 6) (gN h 7) (gF h 8) (fun r0 => k (.v (.c (.pv (.val (.bool r0))))) [])
theorem frame_Good_v1_at (h : List Hole) : CallAt Try.prog 31 (arFill frame_Good_v1_p h).1 (arFill frame_Good_v1_p h).2 (frame_Good_v1_F h) := by
  have e : arFill frame_Good_v1_p h = ([.v (.agg [.pv (.val (.int .u64 (gI h 0))), .pv (.val (.int .u64 (gI h 1))), .pv (.val (.bool (gB h 2))), .pv (.val (.int .i64 (gI h 3))), .pv (.val (.int .i64 (gI h 4))), .pv (.val (.int .i64 (gI h 5))), .pv (.sl (gB h 6) (.int .u8 .nil) 1 (gN h 7) ((gF h 8)))])], []) := by kernel_rfl
  rw [e]; exact callAt_of (runS_ok ttOk eqOk mixed (names_ok namesOk) (S := frame_Good_v1_S mac_Group frame_room) (sums_cons yes25_ok (sums_cons (smOf_ok (alts_cons mac_Group_at alts_nil)) (sums_cons (smOf_ok (alts_cons frame_room_at alts_nil)) (sums_nil)))) (B := frame_Good_v1_B mac_Group frame_room) (hooks_nil) (has bor) 40) fun k => frame_Good_v1_eq mac_Group frame_room _ _ _ _ _ _ _ _ _ k
/- weirgate/weirgatekeep.Frames -/
def keep_Frames_T {α : Type}  (a_1 : Int) (a_2 : Int) (a_3 : Int) (a_4 : Int) (a_5 : Int) (a_6 : Nat) (a_7 : Nat → Nat → PV) (k0 : Nat → (Nat → Nat → PV) → Option α) : Option α := bif (0 == a_1) then
  bif (0 == a_2) then
   k0 a_6 a_7
  else k0 a_6 a_7
 else k0 a_6 a_7
def keep_Frames {α : Type} (a_1 : Int) (a_2 : Int) (a_3 : Int) (a_4 : Int) (a_5 : Int) (a_6 : Nat) (a_7 : Nat → Nat → PV) (k0 : Nat → (Nat → Nat → PV) → Option α) : Option α := keep_Frames_T  a_1 a_2 a_3 a_4 a_5 a_6 a_7 k0
def keep_Frames_S  : List (Nat × Sm) := [(25, yes)]
def keep_Frames_B  : Hooks := []
theorem keep_Frames_eq  (a_1 : Int) (a_2 : Int) (a_3 : Int) (a_4 : Int) (a_5 : Int) (a_6 : Nat) (a_7 : Nat → Nat → PV) (k : FK) : runS tt (has eql) Try.prog.funcs 1152921504606846976 (keep_Frames_S ) (keep_Frames_B ) (has bor) 40 23 [.v (.agg [.pv (.val (.int .u64 0)), .pv (.val (.int .u64 0)), .pv (.val (.bool false)), .pv (.val (.int .i64 0)), .pv (.val (.int .i64 0)), .pv (.val (.int .i64 0)), .pv (.val (.slice none 0 0))]), .v (.agg [.pv (.val (.int .u64 a_1)), .pv (.val (.int .u64 a_2)), .pv (.val (.bool true)), .pv (.val (.int .i64 a_3)), .pv (.val (.int .i64 a_4)), .pv (.val (.int .i64 a_5)), .own 0])] [.parr false (.int .u8 .nil) 1 a_6 (a_7)] k = keep_Frames_T  a_1 a_2 a_3 a_4 a_5 a_6 a_7 (fun r0 r1 => k (.v (.c (.pv (.val (.bool false))))) [.parr false (.int .u8 .nil) 1 r0 (r1)]) := by kernel_rfl
def keep_Frames_p : PAr := ⟨[.v (.agg [.pv (.int .u64 (.l 0)), .pv (.int .u64 (.l 0)), .pv (.bool (.l false)), .pv (.int .i64 (.l 0)), .pv (.int .i64 (.l 0)), .pv (.int .i64 (.l 0)), .pv (.nil)]), .v (.agg [.pv (.int .u64 .h), .pv (.int .u64 .h), .pv (.bool (.l true)), .pv (.int .i64 .h), .pv (.int .i64 .h), .pv (.int .i64 .h), .own 0])], [.parr (.l false) (.int .u8 .nil) 1 .h]⟩
def keep_Frames_F (h : List Hole) (k : FK) : Option Out := keep_Frames (gI h 0) (gI h 1) (gI h 2) (gI h 3) (gI h 4) (gN h 5) (gF h 6) (fun r0 r1 => k (.v (.c (.pv (.val (.bool false))))) [.parr false (.int .u8 .nil) 1 r0 (r1)])
theorem keep_Frames_at (h : List Hole) : CallAt Try.prog 23 (arFill keep_Frames_p h).1 (arFill keep_Frames_p h).2 (keep_Frames_F h) := by
  have e : arFill keep_Frames_p h = ([.v (.agg [.pv (.val (.int .u64 0)), .pv (.val (.int .u64 0)), .pv (.val (.bool false)), .pv (.val (.int .i64 0)), .pv (.val (.int .i64 0)), .pv (.val (.int .i64 0)), .pv (.val (.slice none 0 0))]), .v (.agg [.pv (.val (.int .u64 (gI h 0))), .pv (.val (.int .u64 (gI h 1))), .pv (.val (.bool true)), .pv (.val (.int .i64 (gI h 2))), .pv (.val (.int .i64 (gI h 3))), .pv (.val (.int .i64 (gI h 4))), .own 0])], [.parr false (.int .u8 .nil) 1 (gN h 5) ((gF h 6))]) := by kernel_rfl
  rw [e]; exact callAt_of (runS_ok ttOk eqOk mixed (names_ok namesOk) (S := keep_Frames_S ) (sums_cons yes25_ok (sums_nil)) (B := keep_Frames_B ) (hooks_nil) (has bor) 40) fun k => keep_Frames_eq  _ _ _ _ _ _ _ k
/- weirgate/weirgatekeep.Frames -/
def keep_Frames_v1_T {α : Type}  (a_1 : Int) (a_2 : Int) (a_3 : Int) (a_4 : Nat) (a_5 : Nat → Nat → PV) (k0 : Bool → Nat → (Nat → Nat → PV) → Option α) : Option α := bif (0 == a_1) then
  bif (0 == a_2) then
   bif (0 == a_3) then
    k0 ((⟨#[]⟩ : ByteArray).toList == (strOf a_4 (a_5)).toList) a_4 a_5
   else k0 false a_4 a_5
  else k0 false a_4 a_5
 else k0 false a_4 a_5
def keep_Frames_v1 {α : Type} (a_1 : Int) (a_2 : Int) (a_3 : Int) (a_4 : Nat) (a_5 : Nat → Nat → PV) (k0 : Bool → Nat → (Nat → Nat → PV) → Option α) : Option α := keep_Frames_v1_T  a_1 a_2 a_3 a_4 a_5 k0
def keep_Frames_v1_S  : List (Nat × Sm) := [(25, yes)]
def keep_Frames_v1_B  : Hooks := []
theorem keep_Frames_v1_eq  (a_1 : Int) (a_2 : Int) (a_3 : Int) (a_4 : Nat) (a_5 : Nat → Nat → PV) (k : FK) : runS tt (has eql) Try.prog.funcs 1152921504606846976 (keep_Frames_v1_S ) (keep_Frames_v1_B ) (has bor) 40 23 [.v (.agg [.pv (.val (.int .u64 0)), .pv (.val (.int .u64 0)), .pv (.val (.bool false)), .pv (.val (.int .i64 0)), .pv (.val (.int .i64 0)), .pv (.val (.int .i64 0)), .pv (.val (.slice none 0 0))]), .v (.agg [.pv (.val (.int .u64 a_1)), .pv (.val (.int .u64 a_2)), .pv (.val (.bool false)), .pv (.val (.int .i64 0)), .pv (.val (.int .i64 0)), .pv (.val (.int .i64 a_3)), .own 0])] [.parr false (.int .u8 .nil) 1 a_4 (a_5)] k = keep_Frames_v1_T  a_1 a_2 a_3 a_4 a_5 (fun r0 r1 r2 => k (.v (.c (.pv (.val (.bool r0))))) [.parr false (.int .u8 .nil) 1 r1 (r2)]) := by kernel_rfl
def keep_Frames_v1_p : PAr := ⟨[.v (.agg [.pv (.int .u64 (.l 0)), .pv (.int .u64 (.l 0)), .pv (.bool (.l false)), .pv (.int .i64 (.l 0)), .pv (.int .i64 (.l 0)), .pv (.int .i64 (.l 0)), .pv (.nil)]), .v (.agg [.pv (.int .u64 .h), .pv (.int .u64 .h), .pv (.bool (.l false)), .pv (.int .i64 (.l 0)), .pv (.int .i64 (.l 0)), .pv (.int .i64 .h), .own 0])], [.parr (.l false) (.int .u8 .nil) 1 .h]⟩
def keep_Frames_v1_F (h : List Hole) (k : FK) : Option Out := keep_Frames_v1 (gI h 0) (gI h 1) (gI h 2) (gN h 3) (gF h 4) (fun r0 r1 r2 => k (.v (.c (.pv (.val (.bool r0))))) [.parr false (.int .u8 .nil) 1 r1 (r2)])
theorem keep_Frames_v1_at (h : List Hole) : CallAt Try.prog 23 (arFill keep_Frames_v1_p h).1 (arFill keep_Frames_v1_p h).2 (keep_Frames_v1_F h) := by
  have e : arFill keep_Frames_v1_p h = ([.v (.agg [.pv (.val (.int .u64 0)), .pv (.val (.int .u64 0)), .pv (.val (.bool false)), .pv (.val (.int .i64 0)), .pv (.val (.int .i64 0)), .pv (.val (.int .i64 0)), .pv (.val (.slice none 0 0))]), .v (.agg [.pv (.val (.int .u64 (gI h 0))), .pv (.val (.int .u64 (gI h 1))), .pv (.val (.bool false)), .pv (.val (.int .i64 0)), .pv (.val (.int .i64 0)), .pv (.val (.int .i64 (gI h 2))), .own 0])], [.parr false (.int .u8 .nil) 1 (gN h 3) ((gF h 4))]) := by kernel_rfl
  rw [e]; exact callAt_of (runS_ok ttOk eqOk mixed (names_ok namesOk) (S := keep_Frames_v1_S ) (sums_cons yes25_ok (sums_nil)) (B := keep_Frames_v1_B ) (hooks_nil) (has bor) 40) fun k => keep_Frames_v1_eq  _ _ _ _ _ k
/- weirgate/weirgatekeep.Frames -/
def keep_Frames_v2_T {α : Type}  (a_1 : Int) (a_2 : Int) (a_3 : Int) (a_4 : Int) (a_5 : Int) (a_6 : Nat) (a_7 : Nat → Nat → PV) (k0 : Nat → (Nat → Nat → PV) → Option α) : Option α := bif (a_1 == 0) then
  bif (a_2 == 0) then
   k0 a_6 a_7
  else k0 a_6 a_7
 else k0 a_6 a_7
def keep_Frames_v2 {α : Type} (a_1 : Int) (a_2 : Int) (a_3 : Int) (a_4 : Int) (a_5 : Int) (a_6 : Nat) (a_7 : Nat → Nat → PV) (k0 : Nat → (Nat → Nat → PV) → Option α) : Option α := keep_Frames_v2_T  a_1 a_2 a_3 a_4 a_5 a_6 a_7 k0
def keep_Frames_v2_S  : List (Nat × Sm) := [(25, yes)]
def keep_Frames_v2_B  : Hooks := []
theorem keep_Frames_v2_eq  (a_1 : Int) (a_2 : Int) (a_3 : Int) (a_4 : Int) (a_5 : Int) (a_6 : Nat) (a_7 : Nat → Nat → PV) (k : FK) : runS tt (has eql) Try.prog.funcs 1152921504606846976 (keep_Frames_v2_S ) (keep_Frames_v2_B ) (has bor) 40 23 [.v (.agg [.pv (.val (.int .u64 a_1)), .pv (.val (.int .u64 a_2)), .pv (.val (.bool true)), .pv (.val (.int .i64 a_3)), .pv (.val (.int .i64 a_4)), .pv (.val (.int .i64 a_5)), .own 0]), .v (.agg [.pv (.val (.int .u64 0)), .pv (.val (.int .u64 0)), .pv (.val (.bool false)), .pv (.val (.int .i64 0)), .pv (.val (.int .i64 0)), .pv (.val (.int .i64 0)), .pv (.val (.slice none 0 0))])] [.parr false (.int .u8 .nil) 1 a_6 (a_7)] k = keep_Frames_v2_T  a_1 a_2 a_3 a_4 a_5 a_6 a_7 (fun r0 r1 => k (.v (.c (.pv (.val (.bool false))))) [.parr false (.int .u8 .nil) 1 r0 (r1)]) := by kernel_rfl
def keep_Frames_v2_p : PAr := ⟨[.v (.agg [.pv (.int .u64 .h), .pv (.int .u64 .h), .pv (.bool (.l true)), .pv (.int .i64 .h), .pv (.int .i64 .h), .pv (.int .i64 .h), .own 0]), .v (.agg [.pv (.int .u64 (.l 0)), .pv (.int .u64 (.l 0)), .pv (.bool (.l false)), .pv (.int .i64 (.l 0)), .pv (.int .i64 (.l 0)), .pv (.int .i64 (.l 0)), .pv (.nil)])], [.parr (.l false) (.int .u8 .nil) 1 .h]⟩
def keep_Frames_v2_F (h : List Hole) (k : FK) : Option Out := keep_Frames_v2 (gI h 0) (gI h 1) (gI h 2) (gI h 3) (gI h 4) (gN h 5) (gF h 6) (fun r0 r1 => k (.v (.c (.pv (.val (.bool false))))) [.parr false (.int .u8 .nil) 1 r0 (r1)])
theorem keep_Frames_v2_at (h : List Hole) : CallAt Try.prog 23 (arFill keep_Frames_v2_p h).1 (arFill keep_Frames_v2_p h).2 (keep_Frames_v2_F h) := by
  have e : arFill keep_Frames_v2_p h = ([.v (.agg [.pv (.val (.int .u64 (gI h 0))), .pv (.val (.int .u64 (gI h 1))), .pv (.val (.bool true)), .pv (.val (.int .i64 (gI h 2))), .pv (.val (.int .i64 (gI h 3))), .pv (.val (.int .i64 (gI h 4))), .own 0]), .v (.agg [.pv (.val (.int .u64 0)), .pv (.val (.int .u64 0)), .pv (.val (.bool false)), .pv (.val (.int .i64 0)), .pv (.val (.int .i64 0)), .pv (.val (.int .i64 0)), .pv (.val (.slice none 0 0))])], [.parr false (.int .u8 .nil) 1 (gN h 5) ((gF h 6))]) := by kernel_rfl
  rw [e]; exact callAt_of (runS_ok ttOk eqOk mixed (names_ok namesOk) (S := keep_Frames_v2_S ) (sums_cons yes25_ok (sums_nil)) (B := keep_Frames_v2_B ) (hooks_nil) (has bor) 40) fun k => keep_Frames_v2_eq  _ _ _ _ _ _ _ k
/- weirgate/weirgatekeep.Frames -/
def keep_Frames_v3_T {α : Type}  (a_1 : Int) (a_2 : Int) (a_3 : Int) (a_4 : Int) (a_5 : Int) (a_6 : Int) (a_7 : Int) (a_8 : Int) (a_9 : Int) (a_10 : Int) (a_11 : Nat) (a_12 : Nat → Nat → PV) (a_13 : Nat) (a_14 : Nat → Nat → PV) (k0 : Bool → Nat → (Nat → Nat → PV) → Nat → (Nat → Nat → PV) → Option α) : Option α := bif (a_1 == a_6) then
  bif (a_2 == a_7) then
   bif (a_3 == a_8) then
    bif (a_4 == a_9) then
     bif (a_5 == a_10) then
      k0 ((strOf a_11 (a_12)).toList == (strOf a_13 (a_14)).toList) a_11 a_12 a_13 a_14
     else k0 false a_11 a_12 a_13 a_14
    else k0 false a_11 a_12 a_13 a_14
   else k0 false a_11 a_12 a_13 a_14
  else k0 false a_11 a_12 a_13 a_14
 else k0 false a_11 a_12 a_13 a_14
def keep_Frames_v3 {α : Type} (a_1 : Int) (a_2 : Int) (a_3 : Int) (a_4 : Int) (a_5 : Int) (a_6 : Int) (a_7 : Int) (a_8 : Int) (a_9 : Int) (a_10 : Int) (a_11 : Nat) (a_12 : Nat → Nat → PV) (a_13 : Nat) (a_14 : Nat → Nat → PV) (k0 : Bool → Nat → (Nat → Nat → PV) → Nat → (Nat → Nat → PV) → Option α) : Option α := keep_Frames_v3_T  a_1 a_2 a_3 a_4 a_5 a_6 a_7 a_8 a_9 a_10 a_11 a_12 a_13 a_14 k0
def keep_Frames_v3_S  : List (Nat × Sm) := [(25, yes)]
def keep_Frames_v3_B  : Hooks := []
theorem keep_Frames_v3_eq  (a_1 : Int) (a_2 : Int) (a_3 : Int) (a_4 : Int) (a_5 : Int) (a_6 : Int) (a_7 : Int) (a_8 : Int) (a_9 : Int) (a_10 : Int) (a_11 : Nat) (a_12 : Nat → Nat → PV) (a_13 : Nat) (a_14 : Nat → Nat → PV) (k : FK) : runS tt (has eql) Try.prog.funcs 1152921504606846976 (keep_Frames_v3_S ) (keep_Frames_v3_B ) (has bor) 40 23 [.v (.agg [.pv (.val (.int .u64 a_1)), .pv (.val (.int .u64 a_2)), .pv (.val (.bool true)), .pv (.val (.int .i64 a_3)), .pv (.val (.int .i64 a_4)), .pv (.val (.int .i64 a_5)), .own 0]), .v (.agg [.pv (.val (.int .u64 a_6)), .pv (.val (.int .u64 a_7)), .pv (.val (.bool true)), .pv (.val (.int .i64 a_8)), .pv (.val (.int .i64 a_9)), .pv (.val (.int .i64 a_10)), .own 1])] [.parr false (.int .u8 .nil) 1 a_11 (a_12), .parr false (.int .u8 .nil) 1 a_13 (a_14)] k = keep_Frames_v3_T  a_1 a_2 a_3 a_4 a_5 a_6 a_7 a_8 a_9 a_10 a_11 a_12 a_13 a_14 (fun r0 r1 r2 r3 r4 => k (.v (.c (.pv (.val (.bool r0))))) [.parr false (.int .u8 .nil) 1 r1 (r2), .parr false (.int .u8 .nil) 1 r3 (r4)]) := by kernel_rfl
def keep_Frames_v3_p : PAr := ⟨[.v (.agg [.pv (.int .u64 .h), .pv (.int .u64 .h), .pv (.bool (.l true)), .pv (.int .i64 .h), .pv (.int .i64 .h), .pv (.int .i64 .h), .own 0]), .v (.agg [.pv (.int .u64 .h), .pv (.int .u64 .h), .pv (.bool (.l true)), .pv (.int .i64 .h), .pv (.int .i64 .h), .pv (.int .i64 .h), .own 1])], [.parr (.l false) (.int .u8 .nil) 1 .h, .parr (.l false) (.int .u8 .nil) 1 .h]⟩
def keep_Frames_v3_F (h : List Hole) (k : FK) : Option Out := keep_Frames_v3 (gI h 0) (gI h 1) (gI h 2) (gI h 3) (gI h 4) (gI h 5) (gI h 6) (gI h 7) (gI h 8) (gI h 9) (gN h 10) (gF h 11) (gN h 12) (gF h 13) (fun r0 r1 r2 r3 r4 => k (.v (.c (.pv (.val (.bool r0))))) [.parr false (.int .u8 .nil) 1 r1 (r2), .parr false (.int .u8 .nil) 1 r3 (r4)])
theorem keep_Frames_v3_at (h : List Hole) : CallAt Try.prog 23 (arFill keep_Frames_v3_p h).1 (arFill keep_Frames_v3_p h).2 (keep_Frames_v3_F h) := by
  have e : arFill keep_Frames_v3_p h = ([.v (.agg [.pv (.val (.int .u64 (gI h 0))), .pv (.val (.int .u64 (gI h 1))), .pv (.val (.bool true)), .pv (.val (.int .i64 (gI h 2))), .pv (.val (.int .i64 (gI h 3))), .pv (.val (.int .i64 (gI h 4))), .own 0]), .v (.agg [.pv (.val (.int .u64 (gI h 5))), .pv (.val (.int .u64 (gI h 6))), .pv (.val (.bool true)), .pv (.val (.int .i64 (gI h 7))), .pv (.val (.int .i64 (gI h 8))), .pv (.val (.int .i64 (gI h 9))), .own 1])], [.parr false (.int .u8 .nil) 1 (gN h 10) ((gF h 11)), .parr false (.int .u8 .nil) 1 (gN h 12) ((gF h 13))]) := by kernel_rfl
  rw [e]; exact callAt_of (runS_ok ttOk eqOk mixed (names_ok namesOk) (S := keep_Frames_v3_S ) (sums_cons yes25_ok (sums_nil)) (B := keep_Frames_v3_B ) (hooks_nil) (has bor) 40) fun k => keep_Frames_v3_eq  _ _ _ _ _ _ _ _ _ _ _ _ _ _ k
/- weirgate/weirgatekeep.Frames -/
def keep_Frames_v4_T {α : Type}  (a_1 : Int) (a_2 : Int) (a_3 : Int) (a_4 : Int) (a_5 : Int) (a_6 : Int) (a_7 : Int) (a_8 : Int) (a_9 : Nat) (a_10 : Nat → Nat → PV) (a_11 : Nat) (a_12 : Nat → Nat → PV) (k0 : Nat → (Nat → Nat → PV) → Nat → (Nat → Nat → PV) → Option α) : Option α := bif (a_1 == a_6) then
  bif (a_2 == a_7) then
   k0 a_9 a_10 a_11 a_12
  else k0 a_9 a_10 a_11 a_12
 else k0 a_9 a_10 a_11 a_12
def keep_Frames_v4 {α : Type} (a_1 : Int) (a_2 : Int) (a_3 : Int) (a_4 : Int) (a_5 : Int) (a_6 : Int) (a_7 : Int) (a_8 : Int) (a_9 : Nat) (a_10 : Nat → Nat → PV) (a_11 : Nat) (a_12 : Nat → Nat → PV) (k0 : Nat → (Nat → Nat → PV) → Nat → (Nat → Nat → PV) → Option α) : Option α := keep_Frames_v4_T  a_1 a_2 a_3 a_4 a_5 a_6 a_7 a_8 a_9 a_10 a_11 a_12 k0
def keep_Frames_v4_S  : List (Nat × Sm) := [(25, yes)]
def keep_Frames_v4_B  : Hooks := []
theorem keep_Frames_v4_eq  (a_1 : Int) (a_2 : Int) (a_3 : Int) (a_4 : Int) (a_5 : Int) (a_6 : Int) (a_7 : Int) (a_8 : Int) (a_9 : Nat) (a_10 : Nat → Nat → PV) (a_11 : Nat) (a_12 : Nat → Nat → PV) (k : FK) : runS tt (has eql) Try.prog.funcs 1152921504606846976 (keep_Frames_v4_S ) (keep_Frames_v4_B ) (has bor) 40 23 [.v (.agg [.pv (.val (.int .u64 a_1)), .pv (.val (.int .u64 a_2)), .pv (.val (.bool true)), .pv (.val (.int .i64 a_3)), .pv (.val (.int .i64 a_4)), .pv (.val (.int .i64 a_5)), .own 0]), .v (.agg [.pv (.val (.int .u64 a_6)), .pv (.val (.int .u64 a_7)), .pv (.val (.bool false)), .pv (.val (.int .i64 0)), .pv (.val (.int .i64 0)), .pv (.val (.int .i64 a_8)), .own 1])] [.parr false (.int .u8 .nil) 1 a_9 (a_10), .parr false (.int .u8 .nil) 1 a_11 (a_12)] k = keep_Frames_v4_T  a_1 a_2 a_3 a_4 a_5 a_6 a_7 a_8 a_9 a_10 a_11 a_12 (fun r0 r1 r2 r3 => k (.v (.c (.pv (.val (.bool false))))) [.parr false (.int .u8 .nil) 1 r0 (r1), .parr false (.int .u8 .nil) 1 r2 (r3)]) := by kernel_rfl
def keep_Frames_v4_p : PAr := ⟨[.v (.agg [.pv (.int .u64 .h), .pv (.int .u64 .h), .pv (.bool (.l true)), .pv (.int .i64 .h), .pv (.int .i64 .h), .pv (.int .i64 .h), .own 0]), .v (.agg [.pv (.int .u64 .h), .pv (.int .u64 .h), .pv (.bool (.l false)), .pv (.int .i64 (.l 0)), .pv (.int .i64 (.l 0)), .pv (.int .i64 .h), .own 1])], [.parr (.l false) (.int .u8 .nil) 1 .h, .parr (.l false) (.int .u8 .nil) 1 .h]⟩
def keep_Frames_v4_F (h : List Hole) (k : FK) : Option Out := keep_Frames_v4 (gI h 0) (gI h 1) (gI h 2) (gI h 3) (gI h 4) (gI h 5) (gI h 6) (gI h 7) (gN h 8) (gF h 9) (gN h 10) (gF h 11) (fun r0 r1 r2 r3 => k (.v (.c (.pv (.val (.bool false))))) [.parr false (.int .u8 .nil) 1 r0 (r1), .parr false (.int .u8 .nil) 1 r2 (r3)])
theorem keep_Frames_v4_at (h : List Hole) : CallAt Try.prog 23 (arFill keep_Frames_v4_p h).1 (arFill keep_Frames_v4_p h).2 (keep_Frames_v4_F h) := by
  have e : arFill keep_Frames_v4_p h = ([.v (.agg [.pv (.val (.int .u64 (gI h 0))), .pv (.val (.int .u64 (gI h 1))), .pv (.val (.bool true)), .pv (.val (.int .i64 (gI h 2))), .pv (.val (.int .i64 (gI h 3))), .pv (.val (.int .i64 (gI h 4))), .own 0]), .v (.agg [.pv (.val (.int .u64 (gI h 5))), .pv (.val (.int .u64 (gI h 6))), .pv (.val (.bool false)), .pv (.val (.int .i64 0)), .pv (.val (.int .i64 0)), .pv (.val (.int .i64 (gI h 7))), .own 1])], [.parr false (.int .u8 .nil) 1 (gN h 8) ((gF h 9)), .parr false (.int .u8 .nil) 1 (gN h 10) ((gF h 11))]) := by kernel_rfl
  rw [e]; exact callAt_of (runS_ok ttOk eqOk mixed (names_ok namesOk) (S := keep_Frames_v4_S ) (sums_cons yes25_ok (sums_nil)) (B := keep_Frames_v4_B ) (hooks_nil) (has bor) 40) fun k => keep_Frames_v4_eq  _ _ _ _ _ _ _ _ _ _ _ _ k
/- weirgate/weirgatekeep.Frames -/
def keep_Frames_v5_T {α : Type}  (a_1 : Int) (a_2 : Int) (a_3 : Int) (a_4 : Nat) (a_5 : Nat → Nat → PV) (k0 : Bool → Nat → (Nat → Nat → PV) → Option α) : Option α := bif (a_1 == 0) then
  bif (a_2 == 0) then
   bif (a_3 == 0) then
    k0 ((strOf a_4 (a_5)).toList == (⟨#[]⟩ : ByteArray).toList) a_4 a_5
   else k0 false a_4 a_5
  else k0 false a_4 a_5
 else k0 false a_4 a_5
def keep_Frames_v5 {α : Type} (a_1 : Int) (a_2 : Int) (a_3 : Int) (a_4 : Nat) (a_5 : Nat → Nat → PV) (k0 : Bool → Nat → (Nat → Nat → PV) → Option α) : Option α := keep_Frames_v5_T  a_1 a_2 a_3 a_4 a_5 k0
def keep_Frames_v5_S  : List (Nat × Sm) := [(25, yes)]
def keep_Frames_v5_B  : Hooks := []
theorem keep_Frames_v5_eq  (a_1 : Int) (a_2 : Int) (a_3 : Int) (a_4 : Nat) (a_5 : Nat → Nat → PV) (k : FK) : runS tt (has eql) Try.prog.funcs 1152921504606846976 (keep_Frames_v5_S ) (keep_Frames_v5_B ) (has bor) 40 23 [.v (.agg [.pv (.val (.int .u64 a_1)), .pv (.val (.int .u64 a_2)), .pv (.val (.bool false)), .pv (.val (.int .i64 0)), .pv (.val (.int .i64 0)), .pv (.val (.int .i64 a_3)), .own 0]), .v (.agg [.pv (.val (.int .u64 0)), .pv (.val (.int .u64 0)), .pv (.val (.bool false)), .pv (.val (.int .i64 0)), .pv (.val (.int .i64 0)), .pv (.val (.int .i64 0)), .pv (.val (.slice none 0 0))])] [.parr false (.int .u8 .nil) 1 a_4 (a_5)] k = keep_Frames_v5_T  a_1 a_2 a_3 a_4 a_5 (fun r0 r1 r2 => k (.v (.c (.pv (.val (.bool r0))))) [.parr false (.int .u8 .nil) 1 r1 (r2)]) := by kernel_rfl
def keep_Frames_v5_p : PAr := ⟨[.v (.agg [.pv (.int .u64 .h), .pv (.int .u64 .h), .pv (.bool (.l false)), .pv (.int .i64 (.l 0)), .pv (.int .i64 (.l 0)), .pv (.int .i64 .h), .own 0]), .v (.agg [.pv (.int .u64 (.l 0)), .pv (.int .u64 (.l 0)), .pv (.bool (.l false)), .pv (.int .i64 (.l 0)), .pv (.int .i64 (.l 0)), .pv (.int .i64 (.l 0)), .pv (.nil)])], [.parr (.l false) (.int .u8 .nil) 1 .h]⟩
def keep_Frames_v5_F (h : List Hole) (k : FK) : Option Out := keep_Frames_v5 (gI h 0) (gI h 1) (gI h 2) (gN h 3) (gF h 4) (fun r0 r1 r2 => k (.v (.c (.pv (.val (.bool r0))))) [.parr false (.int .u8 .nil) 1 r1 (r2)])
theorem keep_Frames_v5_at (h : List Hole) : CallAt Try.prog 23 (arFill keep_Frames_v5_p h).1 (arFill keep_Frames_v5_p h).2 (keep_Frames_v5_F h) := by
  have e : arFill keep_Frames_v5_p h = ([.v (.agg [.pv (.val (.int .u64 (gI h 0))), .pv (.val (.int .u64 (gI h 1))), .pv (.val (.bool false)), .pv (.val (.int .i64 0)), .pv (.val (.int .i64 0)), .pv (.val (.int .i64 (gI h 2))), .own 0]), .v (.agg [.pv (.val (.int .u64 0)), .pv (.val (.int .u64 0)), .pv (.val (.bool false)), .pv (.val (.int .i64 0)), .pv (.val (.int .i64 0)), .pv (.val (.int .i64 0)), .pv (.val (.slice none 0 0))])], [.parr false (.int .u8 .nil) 1 (gN h 3) ((gF h 4))]) := by kernel_rfl
  rw [e]; exact callAt_of (runS_ok ttOk eqOk mixed (names_ok namesOk) (S := keep_Frames_v5_S ) (sums_cons yes25_ok (sums_nil)) (B := keep_Frames_v5_B ) (hooks_nil) (has bor) 40) fun k => keep_Frames_v5_eq  _ _ _ _ _ k
/- weirgate/weirgatekeep.Frames -/
def keep_Frames_v6_T {α : Type}  (a_1 : Int) (a_2 : Int) (a_3 : Int) (a_4 : Int) (a_5 : Int) (a_6 : Int) (a_7 : Int) (a_8 : Int) (a_9 : Nat) (a_10 : Nat → Nat → PV) (a_11 : Nat) (a_12 : Nat → Nat → PV) (k0 : Nat → (Nat → Nat → PV) → Nat → (Nat → Nat → PV) → Option α) : Option α := bif (a_1 == a_4) then
  bif (a_2 == a_5) then
   k0 a_9 a_10 a_11 a_12
  else k0 a_9 a_10 a_11 a_12
 else k0 a_9 a_10 a_11 a_12
def keep_Frames_v6 {α : Type} (a_1 : Int) (a_2 : Int) (a_3 : Int) (a_4 : Int) (a_5 : Int) (a_6 : Int) (a_7 : Int) (a_8 : Int) (a_9 : Nat) (a_10 : Nat → Nat → PV) (a_11 : Nat) (a_12 : Nat → Nat → PV) (k0 : Nat → (Nat → Nat → PV) → Nat → (Nat → Nat → PV) → Option α) : Option α := keep_Frames_v6_T  a_1 a_2 a_3 a_4 a_5 a_6 a_7 a_8 a_9 a_10 a_11 a_12 k0
def keep_Frames_v6_S  : List (Nat × Sm) := [(25, yes)]
def keep_Frames_v6_B  : Hooks := []
theorem keep_Frames_v6_eq  (a_1 : Int) (a_2 : Int) (a_3 : Int) (a_4 : Int) (a_5 : Int) (a_6 : Int) (a_7 : Int) (a_8 : Int) (a_9 : Nat) (a_10 : Nat → Nat → PV) (a_11 : Nat) (a_12 : Nat → Nat → PV) (k : FK) : runS tt (has eql) Try.prog.funcs 1152921504606846976 (keep_Frames_v6_S ) (keep_Frames_v6_B ) (has bor) 40 23 [.v (.agg [.pv (.val (.int .u64 a_1)), .pv (.val (.int .u64 a_2)), .pv (.val (.bool false)), .pv (.val (.int .i64 0)), .pv (.val (.int .i64 0)), .pv (.val (.int .i64 a_3)), .own 0]), .v (.agg [.pv (.val (.int .u64 a_4)), .pv (.val (.int .u64 a_5)), .pv (.val (.bool true)), .pv (.val (.int .i64 a_6)), .pv (.val (.int .i64 a_7)), .pv (.val (.int .i64 a_8)), .own 1])] [.parr false (.int .u8 .nil) 1 a_9 (a_10), .parr false (.int .u8 .nil) 1 a_11 (a_12)] k = keep_Frames_v6_T  a_1 a_2 a_3 a_4 a_5 a_6 a_7 a_8 a_9 a_10 a_11 a_12 (fun r0 r1 r2 r3 => k (.v (.c (.pv (.val (.bool false))))) [.parr false (.int .u8 .nil) 1 r0 (r1), .parr false (.int .u8 .nil) 1 r2 (r3)]) := by kernel_rfl
def keep_Frames_v6_p : PAr := ⟨[.v (.agg [.pv (.int .u64 .h), .pv (.int .u64 .h), .pv (.bool (.l false)), .pv (.int .i64 (.l 0)), .pv (.int .i64 (.l 0)), .pv (.int .i64 .h), .own 0]), .v (.agg [.pv (.int .u64 .h), .pv (.int .u64 .h), .pv (.bool (.l true)), .pv (.int .i64 .h), .pv (.int .i64 .h), .pv (.int .i64 .h), .own 1])], [.parr (.l false) (.int .u8 .nil) 1 .h, .parr (.l false) (.int .u8 .nil) 1 .h]⟩
def keep_Frames_v6_F (h : List Hole) (k : FK) : Option Out := keep_Frames_v6 (gI h 0) (gI h 1) (gI h 2) (gI h 3) (gI h 4) (gI h 5) (gI h 6) (gI h 7) (gN h 8) (gF h 9) (gN h 10) (gF h 11) (fun r0 r1 r2 r3 => k (.v (.c (.pv (.val (.bool false))))) [.parr false (.int .u8 .nil) 1 r0 (r1), .parr false (.int .u8 .nil) 1 r2 (r3)])
theorem keep_Frames_v6_at (h : List Hole) : CallAt Try.prog 23 (arFill keep_Frames_v6_p h).1 (arFill keep_Frames_v6_p h).2 (keep_Frames_v6_F h) := by
  have e : arFill keep_Frames_v6_p h = ([.v (.agg [.pv (.val (.int .u64 (gI h 0))), .pv (.val (.int .u64 (gI h 1))), .pv (.val (.bool false)), .pv (.val (.int .i64 0)), .pv (.val (.int .i64 0)), .pv (.val (.int .i64 (gI h 2))), .own 0]), .v (.agg [.pv (.val (.int .u64 (gI h 3))), .pv (.val (.int .u64 (gI h 4))), .pv (.val (.bool true)), .pv (.val (.int .i64 (gI h 5))), .pv (.val (.int .i64 (gI h 6))), .pv (.val (.int .i64 (gI h 7))), .own 1])], [.parr false (.int .u8 .nil) 1 (gN h 8) ((gF h 9)), .parr false (.int .u8 .nil) 1 (gN h 10) ((gF h 11))]) := by kernel_rfl
  rw [e]; exact callAt_of (runS_ok ttOk eqOk mixed (names_ok namesOk) (S := keep_Frames_v6_S ) (sums_cons yes25_ok (sums_nil)) (B := keep_Frames_v6_B ) (hooks_nil) (has bor) 40) fun k => keep_Frames_v6_eq  _ _ _ _ _ _ _ _ _ _ _ _ k
/- weirgate/weirgatekeep.Frames -/
def keep_Frames_v7_T {α : Type}  (a_1 : Int) (a_2 : Int) (a_3 : Int) (a_4 : Int) (a_5 : Int) (a_6 : Int) (a_7 : Nat) (a_8 : Nat → Nat → PV) (a_9 : Nat) (a_10 : Nat → Nat → PV) (k0 : Bool → Nat → (Nat → Nat → PV) → Nat → (Nat → Nat → PV) → Option α) : Option α := bif (a_1 == a_4) then
  bif (a_2 == a_5) then
   bif (a_3 == a_6) then
    k0 ((strOf a_7 (a_8)).toList == (strOf a_9 (a_10)).toList) a_7 a_8 a_9 a_10
   else k0 false a_7 a_8 a_9 a_10
  else k0 false a_7 a_8 a_9 a_10
 else k0 false a_7 a_8 a_9 a_10
def keep_Frames_v7 {α : Type} (a_1 : Int) (a_2 : Int) (a_3 : Int) (a_4 : Int) (a_5 : Int) (a_6 : Int) (a_7 : Nat) (a_8 : Nat → Nat → PV) (a_9 : Nat) (a_10 : Nat → Nat → PV) (k0 : Bool → Nat → (Nat → Nat → PV) → Nat → (Nat → Nat → PV) → Option α) : Option α := keep_Frames_v7_T  a_1 a_2 a_3 a_4 a_5 a_6 a_7 a_8 a_9 a_10 k0
def keep_Frames_v7_S  : List (Nat × Sm) := [(25, yes)]
def keep_Frames_v7_B  : Hooks := []
theorem keep_Frames_v7_eq  (a_1 : Int) (a_2 : Int) (a_3 : Int) (a_4 : Int) (a_5 : Int) (a_6 : Int) (a_7 : Nat) (a_8 : Nat → Nat → PV) (a_9 : Nat) (a_10 : Nat → Nat → PV) (k : FK) : runS tt (has eql) Try.prog.funcs 1152921504606846976 (keep_Frames_v7_S ) (keep_Frames_v7_B ) (has bor) 40 23 [.v (.agg [.pv (.val (.int .u64 a_1)), .pv (.val (.int .u64 a_2)), .pv (.val (.bool false)), .pv (.val (.int .i64 0)), .pv (.val (.int .i64 0)), .pv (.val (.int .i64 a_3)), .own 0]), .v (.agg [.pv (.val (.int .u64 a_4)), .pv (.val (.int .u64 a_5)), .pv (.val (.bool false)), .pv (.val (.int .i64 0)), .pv (.val (.int .i64 0)), .pv (.val (.int .i64 a_6)), .own 1])] [.parr false (.int .u8 .nil) 1 a_7 (a_8), .parr false (.int .u8 .nil) 1 a_9 (a_10)] k = keep_Frames_v7_T  a_1 a_2 a_3 a_4 a_5 a_6 a_7 a_8 a_9 a_10 (fun r0 r1 r2 r3 r4 => k (.v (.c (.pv (.val (.bool r0))))) [.parr false (.int .u8 .nil) 1 r1 (r2), .parr false (.int .u8 .nil) 1 r3 (r4)]) := by kernel_rfl
def keep_Frames_v7_p : PAr := ⟨[.v (.agg [.pv (.int .u64 .h), .pv (.int .u64 .h), .pv (.bool (.l false)), .pv (.int .i64 (.l 0)), .pv (.int .i64 (.l 0)), .pv (.int .i64 .h), .own 0]), .v (.agg [.pv (.int .u64 .h), .pv (.int .u64 .h), .pv (.bool (.l false)), .pv (.int .i64 (.l 0)), .pv (.int .i64 (.l 0)), .pv (.int .i64 .h), .own 1])], [.parr (.l false) (.int .u8 .nil) 1 .h, .parr (.l false) (.int .u8 .nil) 1 .h]⟩
def keep_Frames_v7_F (h : List Hole) (k : FK) : Option Out := keep_Frames_v7 (gI h 0) (gI h 1) (gI h 2) (gI h 3) (gI h 4) (gI h 5) (gN h 6) (gF h 7) (gN h 8) (gF h 9) (fun r0 r1 r2 r3 r4 => k (.v (.c (.pv (.val (.bool r0))))) [.parr false (.int .u8 .nil) 1 r1 (r2), .parr false (.int .u8 .nil) 1 r3 (r4)])
theorem keep_Frames_v7_at (h : List Hole) : CallAt Try.prog 23 (arFill keep_Frames_v7_p h).1 (arFill keep_Frames_v7_p h).2 (keep_Frames_v7_F h) := by
  have e : arFill keep_Frames_v7_p h = ([.v (.agg [.pv (.val (.int .u64 (gI h 0))), .pv (.val (.int .u64 (gI h 1))), .pv (.val (.bool false)), .pv (.val (.int .i64 0)), .pv (.val (.int .i64 0)), .pv (.val (.int .i64 (gI h 2))), .own 0]), .v (.agg [.pv (.val (.int .u64 (gI h 3))), .pv (.val (.int .u64 (gI h 4))), .pv (.val (.bool false)), .pv (.val (.int .i64 0)), .pv (.val (.int .i64 0)), .pv (.val (.int .i64 (gI h 5))), .own 1])], [.parr false (.int .u8 .nil) 1 (gN h 6) ((gF h 7)), .parr false (.int .u8 .nil) 1 (gN h 8) ((gF h 9))]) := by kernel_rfl
  rw [e]; exact callAt_of (runS_ok ttOk eqOk mixed (names_ok namesOk) (S := keep_Frames_v7_S ) (sums_cons yes25_ok (sums_nil)) (B := keep_Frames_v7_B ) (hooks_nil) (has bor) 40) fun k => keep_Frames_v7_eq  _ _ _ _ _ _ _ _ _ _ k
/- weirgate/weirgatelaw10.FrameCodes -/
def law10_FrameCodes_T {α : Type} (Gframe_Encode : Int → Int → Bool → Int → Int → Int → Nat → (Nat → Nat → PV) → (Nat → (Nat → Nat → PV) → Option α) → (Nat → (Nat → Nat → PV) → Nat → (Nat → Nat → PV) → Option α) → Option α) (Gref10_Encode : Int → Int → Bool → Int → Int → Int → Bool → Nat → (Nat → Nat → PV) → (Option α) → (Nat → (Nat → Nat → PV) → Option α) → Option α) (Gframe_Parse : Nat → (Nat → Nat → PV) → (Nat → (Nat → Nat → PV) → Option α) → (Int → Int → Int → Int → Int → Nat → (Nat → Nat → PV) → Nat → (Nat → Nat → PV) → Option α) → (Int → Int → Int → Nat → (Nat → Nat → PV) → Nat → (Nat → Nat → PV) → Option α) → Option α) (Gref10_Parse : Bool → Nat → (Nat → Nat → PV) → (Option α) → (Int → Int → Int → Int → Int → Nat → (Nat → Nat → PV) → Option α) → (Int → Int → Int → Nat → (Nat → Nat → PV) → Option α) → Option α) (Gframe_Good_v1 : Int → Int → Bool → Int → Int → Int → Bool → Nat → (Nat → Nat → PV) → (Bool → Option α) → Option α) (Gref10_Good : Int → Int → Bool → Int → Int → Int → Bool → Nat → (Nat → Nat → PV) → (Bool → Option α) → Option α) (Gkeep_Frames : Int → Int → Int → Int → Int → Nat → (Nat → Nat → PV) → (Nat → (Nat → Nat → PV) → Option α) → Option α) (Gkeep_Frames_v1 : Int → Int → Int → Nat → (Nat → Nat → PV) → (Bool → Nat → (Nat → Nat → PV) → Option α) → Option α) (Gkeep_Frames_v2 : Int → Int → Int → Int → Int → Nat → (Nat → Nat → PV) → (Nat → (Nat → Nat → PV) → Option α) → Option α) (Gkeep_Frames_v3 : Int → Int → Int → Int → Int → Int → Int → Int → Int → Int → Nat → (Nat → Nat → PV) → Nat → (Nat → Nat → PV) → (Bool → Nat → (Nat → Nat → PV) → Nat → (Nat → Nat → PV) → Option α) → Option α) (Gkeep_Frames_v4 : Int → Int → Int → Int → Int → Int → Int → Int → Nat → (Nat → Nat → PV) → Nat → (Nat → Nat → PV) → (Nat → (Nat → Nat → PV) → Nat → (Nat → Nat → PV) → Option α) → Option α) (Gkeep_Frames_v5 : Int → Int → Int → Nat → (Nat → Nat → PV) → (Bool → Nat → (Nat → Nat → PV) → Option α) → Option α) (Gkeep_Frames_v6 : Int → Int → Int → Int → Int → Int → Int → Int → Nat → (Nat → Nat → PV) → Nat → (Nat → Nat → PV) → (Nat → (Nat → Nat → PV) → Nat → (Nat → Nat → PV) → Option α) → Option α) (Gkeep_Frames_v7 : Int → Int → Int → Int → Int → Int → Nat → (Nat → Nat → PV) → Nat → (Nat → Nat → PV) → (Bool → Nat → (Nat → Nat → PV) → Nat → (Nat → Nat → PV) → Option α) → Option α) (a_1 : Int) (a_2 : Int) (a_3 : Bool) (a_4 : Int) (a_5 : Int) (a_6 : Int) (a_7 : Bool) (a_8 : Nat) (a_9 : Nat → Nat → PV) (a_10 : Bool) (a_11 : Nat) (a_12 : Nat → Nat → PV) (k0 : Option α) (k1 : Option α) : Option α := bif decide ((a_8 : Int) > 2000) then
  k0
 else bif decide ((a_11 : Int) > 2000) then
  k0
 else bif Nat.ble ((0 + a_8) * 1) bound then
  Gframe_Encode a_1 a_2 a_3 a_4 a_5 a_6 (0 + a_8) (catf 0 (rowOf 1 []) (a_9))
   (fun r_13 r_14 => Gref10_Encode a_1 a_2 a_3 a_4 a_5 a_6 a_7 a_8 a_9
    (bif Nat.ble ((0 + a_11) * 1) bound then
     Gframe_Parse (0 + a_11) (catf 0 (rowOf 1 []) (a_12))
      (fun r_15 r_16 => Gref10_Parse a_10 a_11 a_12
       (Gframe_Good_v1 a_1 a_2 a_3 a_4 a_5 a_6 a_7 a_8 a_9
        (fun r_17 => Gref10_Good a_1 a_2 a_3 a_4 a_5 a_6 a_7 a_8 a_9
         (fun r_18 => bif (r_17 == r_18) then
          k0
         else k1)))
       (fun r_17 r_18 r_19 r_20 r_21 r_22 r_23 => Gframe_Good_v1 a_1 a_2 a_3 a_4 a_5 a_6 a_7 a_8 a_9
        (fun r_24 => Gref10_Good a_1 a_2 a_3 a_4 a_5 a_6 a_7 a_8 a_9
         (fun r_25 => bif (r_24 == r_25) then
          Gkeep_Frames r_17 r_18 r_19 r_20 r_21 r_22 r_23
           (fun r_26 r_27 => k1)
         else k1)))
       (fun r_17 r_18 r_19 r_20 r_21 => Gframe_Good_v1 a_1 a_2 a_3 a_4 a_5 a_6 a_7 a_8 a_9
        (fun r_22 => Gref10_Good a_1 a_2 a_3 a_4 a_5 a_6 a_7 a_8 a_9
         (fun r_23 => bif (r_22 == r_23) then
          Gkeep_Frames_v1 r_17 r_18 r_19 r_20 r_21
           (fun r_24 r_25 r_26 => bif r_24 then
            k1
           else k1)
         else k1))))
      (fun r_15 r_16 r_17 r_18 r_19 r_20 r_21 r_22 r_23 => Gref10_Parse a_10 a_11 a_12
       (Gframe_Good_v1 a_1 a_2 a_3 a_4 a_5 a_6 a_7 a_8 a_9
        (fun r_24 => Gref10_Good a_1 a_2 a_3 a_4 a_5 a_6 a_7 a_8 a_9
         (fun r_25 => bif (r_24 == r_25) then
          Gkeep_Frames_v2 r_15 r_16 r_17 r_18 r_19 r_22 r_23
           (fun r_26 r_27 => k1)
         else k1)))
       (fun r_24 r_25 r_26 r_27 r_28 r_29 r_30 => Gframe_Good_v1 a_1 a_2 a_3 a_4 a_5 a_6 a_7 a_8 a_9
        (fun r_31 => Gref10_Good a_1 a_2 a_3 a_4 a_5 a_6 a_7 a_8 a_9
         (fun r_32 => bif (r_31 == r_32) then
          Gkeep_Frames_v3 r_15 r_16 r_17 r_18 r_19 r_24 r_25 r_26 r_27 r_28 r_22 r_23 r_29 r_30
           (fun r_33 r_34 r_35 r_36 r_37 => bif r_33 then
            k0
           else k1)
         else k1)))
       (fun r_24 r_25 r_26 r_27 r_28 => Gframe_Good_v1 a_1 a_2 a_3 a_4 a_5 a_6 a_7 a_8 a_9
        (fun r_29 => Gref10_Good a_1 a_2 a_3 a_4 a_5 a_6 a_7 a_8 a_9
         (fun r_30 => bif (r_29 == r_30) then
          Gkeep_Frames_v4 r_15 r_16 r_17 r_18 r_19 r_24 r_25 r_26 r_22 r_23 r_27 r_28
           (fun r_31 r_32 r_33 r_34 => k1)
         else k1))))
      (fun r_15 r_16 r_17 r_18 r_19 r_20 r_21 => Gref10_Parse a_10 a_11 a_12
       (Gframe_Good_v1 a_1 a_2 a_3 a_4 a_5 a_6 a_7 a_8 a_9
        (fun r_22 => Gref10_Good a_1 a_2 a_3 a_4 a_5 a_6 a_7 a_8 a_9
         (fun r_23 => bif (r_22 == r_23) then
          Gkeep_Frames_v5 r_15 r_16 r_17 r_20 r_21
           (fun r_24 r_25 r_26 => bif r_24 then
            k1
           else k1)
         else k1)))
       (fun r_22 r_23 r_24 r_25 r_26 r_27 r_28 => Gframe_Good_v1 a_1 a_2 a_3 a_4 a_5 a_6 a_7 a_8 a_9
        (fun r_29 => Gref10_Good a_1 a_2 a_3 a_4 a_5 a_6 a_7 a_8 a_9
         (fun r_30 => bif (r_29 == r_30) then
          Gkeep_Frames_v6 r_15 r_16 r_17 r_22 r_23 r_24 r_25 r_26 r_20 r_21 r_27 r_28
           (fun r_31 r_32 r_33 r_34 => k1)
         else k1)))
       (fun r_22 r_23 r_24 r_25 r_26 => Gframe_Good_v1 a_1 a_2 a_3 a_4 a_5 a_6 a_7 a_8 a_9
        (fun r_27 => Gref10_Good a_1 a_2 a_3 a_4 a_5 a_6 a_7 a_8 a_9
         (fun r_28 => bif (r_27 == r_28) then
          Gkeep_Frames_v7 r_15 r_16 r_17 r_22 r_23 r_24 r_20 r_21 r_25 r_26
           (fun r_29 r_30 r_31 r_32 r_33 => bif r_29 then
            k0
           else k1)
         else k1))))
    else none /- test -/)
    (fun r_15 r_16 => bif Nat.ble ((0 + a_11) * 1) bound then
     Gframe_Parse (0 + a_11) (catf 0 (rowOf 1 []) (a_12))
      (fun r_17 r_18 => Gref10_Parse a_10 a_11 a_12
       (Gframe_Good_v1 a_1 a_2 a_3 a_4 a_5 a_6 a_7 a_8 a_9
        (fun r_19 => Gref10_Good a_1 a_2 a_3 a_4 a_5 a_6 a_7 a_8 a_9
         (fun r_20 => bif (r_19 == r_20) then
          bif ((⟨#[]⟩ : ByteArray).toList == (strOf r_15 (r_16)).toList) then
           k1
          else k1
         else k1)))
       (fun r_19 r_20 r_21 r_22 r_23 r_24 r_25 => Gframe_Good_v1 a_1 a_2 a_3 a_4 a_5 a_6 a_7 a_8 a_9
        (fun r_26 => Gref10_Good a_1 a_2 a_3 a_4 a_5 a_6 a_7 a_8 a_9
         (fun r_27 => bif (r_26 == r_27) then
          bif ((⟨#[]⟩ : ByteArray).toList == (strOf r_15 (r_16)).toList) then
           k1
          else k1
         else k1)))
       (fun r_19 r_20 r_21 r_22 r_23 => Gframe_Good_v1 a_1 a_2 a_3 a_4 a_5 a_6 a_7 a_8 a_9
        (fun r_24 => Gref10_Good a_1 a_2 a_3 a_4 a_5 a_6 a_7 a_8 a_9
         (fun r_25 => bif (r_24 == r_25) then
          bif ((⟨#[]⟩ : ByteArray).toList == (strOf r_15 (r_16)).toList) then
           k1
          else k1
         else k1))))
      (fun r_17 r_18 r_19 r_20 r_21 r_22 r_23 r_24 r_25 => Gref10_Parse a_10 a_11 a_12
       (Gframe_Good_v1 a_1 a_2 a_3 a_4 a_5 a_6 a_7 a_8 a_9
        (fun r_26 => Gref10_Good a_1 a_2 a_3 a_4 a_5 a_6 a_7 a_8 a_9
         (fun r_27 => bif (r_26 == r_27) then
          bif ((⟨#[]⟩ : ByteArray).toList == (strOf r_15 (r_16)).toList) then
           k1
          else k1
         else k1)))
       (fun r_26 r_27 r_28 r_29 r_30 r_31 r_32 => Gframe_Good_v1 a_1 a_2 a_3 a_4 a_5 a_6 a_7 a_8 a_9
        (fun r_33 => Gref10_Good a_1 a_2 a_3 a_4 a_5 a_6 a_7 a_8 a_9
         (fun r_34 => bif (r_33 == r_34) then
          bif ((⟨#[]⟩ : ByteArray).toList == (strOf r_15 (r_16)).toList) then
           k1
          else k1
         else k1)))
       (fun r_26 r_27 r_28 r_29 r_30 => Gframe_Good_v1 a_1 a_2 a_3 a_4 a_5 a_6 a_7 a_8 a_9
        (fun r_31 => Gref10_Good a_1 a_2 a_3 a_4 a_5 a_6 a_7 a_8 a_9
         (fun r_32 => bif (r_31 == r_32) then
          bif ((⟨#[]⟩ : ByteArray).toList == (strOf r_15 (r_16)).toList) then
           k1
          else k1
         else k1))))
      (fun r_17 r_18 r_19 r_20 r_21 r_22 r_23 => Gref10_Parse a_10 a_11 a_12
       (Gframe_Good_v1 a_1 a_2 a_3 a_4 a_5 a_6 a_7 a_8 a_9
        (fun r_24 => Gref10_Good a_1 a_2 a_3 a_4 a_5 a_6 a_7 a_8 a_9
         (fun r_25 => bif (r_24 == r_25) then
          bif ((⟨#[]⟩ : ByteArray).toList == (strOf r_15 (r_16)).toList) then
           k1
          else k1
         else k1)))
       (fun r_24 r_25 r_26 r_27 r_28 r_29 r_30 => Gframe_Good_v1 a_1 a_2 a_3 a_4 a_5 a_6 a_7 a_8 a_9
        (fun r_31 => Gref10_Good a_1 a_2 a_3 a_4 a_5 a_6 a_7 a_8 a_9
         (fun r_32 => bif (r_31 == r_32) then
          bif ((⟨#[]⟩ : ByteArray).toList == (strOf r_15 (r_16)).toList) then
           k1
          else k1
         else k1)))
       (fun r_24 r_25 r_26 r_27 r_28 => Gframe_Good_v1 a_1 a_2 a_3 a_4 a_5 a_6 a_7 a_8 a_9
        (fun r_29 => Gref10_Good a_1 a_2 a_3 a_4 a_5 a_6 a_7 a_8 a_9
         (fun r_30 => bif (r_29 == r_30) then
          bif ((⟨#[]⟩ : ByteArray).toList == (strOf r_15 (r_16)).toList) then
           k1
          else k1
         else k1))))
    else none /- test -/))
   (fun r_13 r_14 r_15 r_16 => Gref10_Encode a_1 a_2 a_3 a_4 a_5 a_6 a_7 a_8 a_9
    (bif Nat.ble ((0 + a_11) * 1) bound then
     Gframe_Parse (0 + a_11) (catf 0 (rowOf 1 []) (a_12))
      (fun r_17 r_18 => Gref10_Parse a_10 a_11 a_12
       (Gframe_Good_v1 a_1 a_2 a_3 a_4 a_5 a_6 a_7 a_8 a_9
        (fun r_19 => Gref10_Good a_1 a_2 a_3 a_4 a_5 a_6 a_7 a_8 a_9
         (fun r_20 => bif (r_19 == r_20) then
          bif ((strOf r_15 (r_16)).toList == (⟨#[]⟩ : ByteArray).toList) then
           k1
          else k1
         else k1)))
       (fun r_19 r_20 r_21 r_22 r_23 r_24 r_25 => Gframe_Good_v1 a_1 a_2 a_3 a_4 a_5 a_6 a_7 a_8 a_9
        (fun r_26 => Gref10_Good a_1 a_2 a_3 a_4 a_5 a_6 a_7 a_8 a_9
         (fun r_27 => bif (r_26 == r_27) then
          bif ((strOf r_15 (r_16)).toList == (⟨#[]⟩ : ByteArray).toList) then
           k1
          else k1
         else k1)))
       (fun r_19 r_20 r_21 r_22 r_23 => Gframe_Good_v1 a_1 a_2 a_3 a_4 a_5 a_6 a_7 a_8 a_9
        (fun r_24 => Gref10_Good a_1 a_2 a_3 a_4 a_5 a_6 a_7 a_8 a_9
         (fun r_25 => bif (r_24 == r_25) then
          bif ((strOf r_15 (r_16)).toList == (⟨#[]⟩ : ByteArray).toList) then
           k1
          else k1
         else k1))))
      (fun r_17 r_18 r_19 r_20 r_21 r_22 r_23 r_24 r_25 => Gref10_Parse a_10 a_11 a_12
       (Gframe_Good_v1 a_1 a_2 a_3 a_4 a_5 a_6 a_7 a_8 a_9
        (fun r_26 => Gref10_Good a_1 a_2 a_3 a_4 a_5 a_6 a_7 a_8 a_9
         (fun r_27 => bif (r_26 == r_27) then
          bif ((strOf r_15 (r_16)).toList == (⟨#[]⟩ : ByteArray).toList) then
           k1
          else k1
         else k1)))
       (fun r_26 r_27 r_28 r_29 r_30 r_31 r_32 => Gframe_Good_v1 a_1 a_2 a_3 a_4 a_5 a_6 a_7 a_8 a_9
        (fun r_33 => Gref10_Good a_1 a_2 a_3 a_4 a_5 a_6 a_7 a_8 a_9
         (fun r_34 => bif (r_33 == r_34) then
          bif ((strOf r_15 (r_16)).toList == (⟨#[]⟩ : ByteArray).toList) then
           k1
          else k1
         else k1)))
       (fun r_26 r_27 r_28 r_29 r_30 => Gframe_Good_v1 a_1 a_2 a_3 a_4 a_5 a_6 a_7 a_8 a_9
        (fun r_31 => Gref10_Good a_1 a_2 a_3 a_4 a_5 a_6 a_7 a_8 a_9
         (fun r_32 => bif (r_31 == r_32) then
          bif ((strOf r_15 (r_16)).toList == (⟨#[]⟩ : ByteArray).toList) then
           k1
          else k1
         else k1))))
      (fun r_17 r_18 r_19 r_20 r_21 r_22 r_23 => Gref10_Parse a_10 a_11 a_12
       (Gframe_Good_v1 a_1 a_2 a_3 a_4 a_5 a_6 a_7 a_8 a_9
        (fun r_24 => Gref10_Good a_1 a_2 a_3 a_4 a_5 a_6 a_7 a_8 a_9
         (fun r_25 => bif (r_24 == r_25) then
          bif ((strOf r_15 (r_16)).toList == (⟨#[]⟩ : ByteArray).toList) then
           k1
          else k1
         else k1)))
       (fun r_24 r_25 r_26 r_27 r_28 r_29 r_30 => Gframe_Good_v1 a_1 a_2 a_3 a_4 a_5 a_6 a_7 a_8 a_9
        (fun r_31 => Gref10_Good a_1 a_2 a_3 a_4 a_5 a_6 a_7 a_8 a_9
         (fun r_32 => bif (r_31 == r_32) then
          bif ((strOf r_15 (r_16)).toList == (⟨#[]⟩ : ByteArray).toList) then
           k1
          else k1
         else k1)))
       (fun r_24 r_25 r_26 r_27 r_28 => Gframe_Good_v1 a_1 a_2 a_3 a_4 a_5 a_6 a_7 a_8 a_9
        (fun r_29 => Gref10_Good a_1 a_2 a_3 a_4 a_5 a_6 a_7 a_8 a_9
         (fun r_30 => bif (r_29 == r_30) then
          bif ((strOf r_15 (r_16)).toList == (⟨#[]⟩ : ByteArray).toList) then
           k1
          else k1
         else k1))))
    else none /- test -/)
    (fun r_17 r_18 => bif Nat.ble ((0 + a_11) * 1) bound then
     Gframe_Parse (0 + a_11) (catf 0 (rowOf 1 []) (a_12))
      (fun r_19 r_20 => Gref10_Parse a_10 a_11 a_12
       (Gframe_Good_v1 a_1 a_2 a_3 a_4 a_5 a_6 a_7 a_8 a_9
        (fun r_21 => Gref10_Good a_1 a_2 a_3 a_4 a_5 a_6 a_7 a_8 a_9
         (fun r_22 => bif (r_21 == r_22) then
          bif ((strOf r_15 (r_16)).toList == (strOf r_17 (r_18)).toList) then
           k0
          else k1
         else k1)))
       (fun r_21 r_22 r_23 r_24 r_25 r_26 r_27 => Gframe_Good_v1 a_1 a_2 a_3 a_4 a_5 a_6 a_7 a_8 a_9
        (fun r_28 => Gref10_Good a_1 a_2 a_3 a_4 a_5 a_6 a_7 a_8 a_9
         (fun r_29 => bif (r_28 == r_29) then
          bif ((strOf r_15 (r_16)).toList == (strOf r_17 (r_18)).toList) then
           Gkeep_Frames r_21 r_22 r_23 r_24 r_25 r_26 r_27
            (fun r_30 r_31 => k1)
          else k1
         else k1)))
       (fun r_21 r_22 r_23 r_24 r_25 => Gframe_Good_v1 a_1 a_2 a_3 a_4 a_5 a_6 a_7 a_8 a_9
        (fun r_26 => Gref10_Good a_1 a_2 a_3 a_4 a_5 a_6 a_7 a_8 a_9
         (fun r_27 => bif (r_26 == r_27) then
          bif ((strOf r_15 (r_16)).toList == (strOf r_17 (r_18)).toList) then
           Gkeep_Frames_v1 r_21 r_22 r_23 r_24 r_25
            (fun r_28 r_29 r_30 => bif r_28 then
             k1
            else k1)
          else k1
         else k1))))
      (fun r_19 r_20 r_21 r_22 r_23 r_24 r_25 r_26 r_27 => Gref10_Parse a_10 a_11 a_12
       (Gframe_Good_v1 a_1 a_2 a_3 a_4 a_5 a_6 a_7 a_8 a_9
        (fun r_28 => Gref10_Good a_1 a_2 a_3 a_4 a_5 a_6 a_7 a_8 a_9
         (fun r_29 => bif (r_28 == r_29) then
          bif ((strOf r_15 (r_16)).toList == (strOf r_17 (r_18)).toList) then
           Gkeep_Frames_v2 r_19 r_20 r_21 r_22 r_23 r_26 r_27
            (fun r_30 r_31 => k1)
          else k1
         else k1)))
       (fun r_28 r_29 r_30 r_31 r_32 r_33 r_34 => Gframe_Good_v1 a_1 a_2 a_3 a_4 a_5 a_6 a_7 a_8 a_9
        (fun r_35 => Gref10_Good a_1 a_2 a_3 a_4 a_5 a_6 a_7 a_8 a_9
         (fun r_36 => bif (r_35 == r_36) then
          bif ((strOf r_15 (r_16)).toList == (strOf r_17 (r_18)).toList) then
           Gkeep_Frames_v3 r_19 r_20 r_21 r_22 r_23 r_28 r_29 r_30 r_31 r_32 r_26 r_27 r_33 r_34
            (fun r_37 r_38 r_39 r_40 r_41 => bif r_37 then
             k0
            else k1)
          else k1
         else k1)))
       (fun r_28 r_29 r_30 r_31 r_32 => Gframe_Good_v1 a_1 a_2 a_3 a_4 a_5 a_6 a_7 a_8 a_9
        (fun r_33 => Gref10_Good a_1 a_2 a_3 a_4 a_5 a_6 a_7 a_8 a_9
         (fun r_34 => bif (r_33 == r_34) then
          bif ((strOf r_15 (r_16)).toList == (strOf r_17 (r_18)).toList) then
           Gkeep_Frames_v4 r_19 r_20 r_21 r_22 r_23 r_28 r_29 r_30 r_26 r_27 r_31 r_32
            (fun r_35 r_36 r_37 r_38 => k1)
          else k1
         else k1))))
      (fun r_19 r_20 r_21 r_22 r_23 r_24 r_25 => Gref10_Parse a_10 a_11 a_12
       (Gframe_Good_v1 a_1 a_2 a_3 a_4 a_5 a_6 a_7 a_8 a_9
        (fun r_26 => Gref10_Good a_1 a_2 a_3 a_4 a_5 a_6 a_7 a_8 a_9
         (fun r_27 => bif (r_26 == r_27) then
          bif ((strOf r_15 (r_16)).toList == (strOf r_17 (r_18)).toList) then
           Gkeep_Frames_v5 r_19 r_20 r_21 r_24 r_25
            (fun r_28 r_29 r_30 => bif r_28 then
             k1
            else k1)
          else k1
         else k1)))
       (fun r_26 r_27 r_28 r_29 r_30 r_31 r_32 => Gframe_Good_v1 a_1 a_2 a_3 a_4 a_5 a_6 a_7 a_8 a_9
        (fun r_33 => Gref10_Good a_1 a_2 a_3 a_4 a_5 a_6 a_7 a_8 a_9
         (fun r_34 => bif (r_33 == r_34) then
          bif ((strOf r_15 (r_16)).toList == (strOf r_17 (r_18)).toList) then
           Gkeep_Frames_v6 r_19 r_20 r_21 r_26 r_27 r_28 r_29 r_30 r_24 r_25 r_31 r_32
            (fun r_35 r_36 r_37 r_38 => k1)
          else k1
         else k1)))
       (fun r_26 r_27 r_28 r_29 r_30 => Gframe_Good_v1 a_1 a_2 a_3 a_4 a_5 a_6 a_7 a_8 a_9
        (fun r_31 => Gref10_Good a_1 a_2 a_3 a_4 a_5 a_6 a_7 a_8 a_9
         (fun r_32 => bif (r_31 == r_32) then
          bif ((strOf r_15 (r_16)).toList == (strOf r_17 (r_18)).toList) then
           Gkeep_Frames_v7 r_19 r_20 r_21 r_26 r_27 r_28 r_24 r_25 r_29 r_30
            (fun r_33 r_34 r_35 r_36 r_37 => bif r_33 then
             k0
            else k1)
          else k1
         else k1))))
    else none /- test -/))
 else none /- test -/
def law10_FrameCodes {α : Type} (a_1 : Int) (a_2 : Int) (a_3 : Bool) (a_4 : Int) (a_5 : Int) (a_6 : Int) (a_7 : Bool) (a_8 : Nat) (a_9 : Nat → Nat → PV) (a_10 : Bool) (a_11 : Nat) (a_12 : Nat → Nat → PV) (k0 : Option α) (k1 : Option α) : Option α := law10_FrameCodes_T frame_Encode ref10_Encode frame_Parse ref10_Parse frame_Good_v1 ref10_Good keep_Frames keep_Frames_v1 keep_Frames_v2 keep_Frames_v3 keep_Frames_v4 keep_Frames_v5 keep_Frames_v6 keep_Frames_v7 a_1 a_2 a_3 a_4 a_5 a_6 a_7 a_8 a_9 a_10 a_11 a_12 k0 k1
def law10_FrameCodes_S (Gframe_Encode : Int → Int → Bool → Int → Int → Int → Nat → (Nat → Nat → PV) → (Nat → (Nat → Nat → PV) → Option Out) → (Nat → (Nat → Nat → PV) → Nat → (Nat → Nat → PV) → Option Out) → Option Out) (Gref10_Encode : Int → Int → Bool → Int → Int → Int → Bool → Nat → (Nat → Nat → PV) → (Option Out) → (Nat → (Nat → Nat → PV) → Option Out) → Option Out) (Gframe_Parse : Nat → (Nat → Nat → PV) → (Nat → (Nat → Nat → PV) → Option Out) → (Int → Int → Int → Int → Int → Nat → (Nat → Nat → PV) → Nat → (Nat → Nat → PV) → Option Out) → (Int → Int → Int → Nat → (Nat → Nat → PV) → Nat → (Nat → Nat → PV) → Option Out) → Option Out) (Gref10_Parse : Bool → Nat → (Nat → Nat → PV) → (Option Out) → (Int → Int → Int → Int → Int → Nat → (Nat → Nat → PV) → Option Out) → (Int → Int → Int → Nat → (Nat → Nat → PV) → Option Out) → Option Out) (Gframe_Good_v1 : Int → Int → Bool → Int → Int → Int → Bool → Nat → (Nat → Nat → PV) → (Bool → Option Out) → Option Out) (Gref10_Good : Int → Int → Bool → Int → Int → Int → Bool → Nat → (Nat → Nat → PV) → (Bool → Option Out) → Option Out) (Gkeep_Frames : Int → Int → Int → Int → Int → Nat → (Nat → Nat → PV) → (Nat → (Nat → Nat → PV) → Option Out) → Option Out) (Gkeep_Frames_v1 : Int → Int → Int → Nat → (Nat → Nat → PV) → (Bool → Nat → (Nat → Nat → PV) → Option Out) → Option Out) (Gkeep_Frames_v2 : Int → Int → Int → Int → Int → Nat → (Nat → Nat → PV) → (Nat → (Nat → Nat → PV) → Option Out) → Option Out) (Gkeep_Frames_v3 : Int → Int → Int → Int → Int → Int → Int → Int → Int → Int → Nat → (Nat → Nat → PV) → Nat → (Nat → Nat → PV) → (Bool → Nat → (Nat → Nat → PV) → Nat → (Nat → Nat → PV) → Option Out) → Option Out) (Gkeep_Frames_v4 : Int → Int → Int → Int → Int → Int → Int → Int → Nat → (Nat → Nat → PV) → Nat → (Nat → Nat → PV) → (Nat → (Nat → Nat → PV) → Nat → (Nat → Nat → PV) → Option Out) → Option Out) (Gkeep_Frames_v5 : Int → Int → Int → Nat → (Nat → Nat → PV) → (Bool → Nat → (Nat → Nat → PV) → Option Out) → Option Out) (Gkeep_Frames_v6 : Int → Int → Int → Int → Int → Int → Int → Int → Nat → (Nat → Nat → PV) → Nat → (Nat → Nat → PV) → (Nat → (Nat → Nat → PV) → Nat → (Nat → Nat → PV) → Option Out) → Option Out) (Gkeep_Frames_v7 : Int → Int → Int → Int → Int → Int → Nat → (Nat → Nat → PV) → Nat → (Nat → Nat → PV) → (Bool → Nat → (Nat → Nat → PV) → Nat → (Nat → Nat → PV) → Option Out) → Option Out) : List (Nat × Sm) := [(25, yes), (26, smOf [(frame_Encode_p, fun h k => Gframe_Encode (gI h 0) (gI h 1) (gB h 2) (gI h 3) (gI h 4) (gI h 5) (gN h 6) (gF h 7) (fun r0 r1 => k (.tup [.c (.pv (.val (.slice none 0 0))), .c (.pv (.val (.int .i64 11)))]) [.parr false (.int .u8 .nil) 1 r0 (r1)]) (fun r0 r1 r2 r3 => k (.tup [.c (.own 1), .c (.pv (.val (.int .i64 0)))]) [.parr true (.int .u8 .nil) 1 r0 (r1), .parr false (.int .u8 .nil) 1 r2 (r3)]))]), (28, smOf [(ref10_Encode_p, fun h k => Gref10_Encode (gI h 0) (gI h 1) (gB h 2) (gI h 3) (gI h 4) (gI h 5) (gB h 6) (gN h 7) (gF h 8) (k (.tup [.c (.pv (.val (.slice none 0 0))), .c (.pv (.val (.int .i64 11)))]) []) (fun r0 r1 => k (.tup [.c (.own 0), .c (.pv (.val (.int .i64 0)))]) [.parr false (.int .u8 .nil) 1 r0 (r1)]))]), (29, smOf [(frame_Parse_p, fun h k => Gframe_Parse (gN h 0) (gF h 1) (fun r0 r1 => k (.tup [.agg [.pv (.val (.int .u64 0)), .pv (.val (.int .u64 0)), .pv (.val (.bool false)), .pv (.val (.int .i64 0)), .pv (.val (.int .i64 0)), .pv (.val (.int .i64 0)), .pv (.val (.slice none 0 0))], .c (.pv (.val (.int .i64 11)))]) [.parr false (.int .u8 .nil) 1 r0 (r1)]) (fun r0 r1 r2 r3 r4 r5 r6 r7 r8 => k (.tup [.agg [.pv (.val (.int .u64 r0)), .pv (.val (.int .u64 r1)), .pv (.val (.bool true)), .pv (.val (.int .i64 r2)), .pv (.val (.int .i64 r3)), .pv (.val (.int .i64 r4)), .own 1], .c (.pv (.val (.int .i64 0)))]) [.parr false (.int .u8 .nil) 1 r5 (r6), .parr false (.int .u8 .nil) 1 r7 (r8)]) (fun r0 r1 r2 r3 r4 r5 r6 => k (.tup [.agg [.pv (.val (.int .u64 r0)), .pv (.val (.int .u64 r1)), .pv (.val (.bool false)), .pv (.val (.int .i64 0)), .pv (.val (.int .i64 0)), .pv (.val (.int .i64 r2)), .own 1], .c (.pv (.val (.int .i64 0)))]) [.parr false (.int .u8 .nil) 1 r3 (r4), .parr false (.int .u8 .nil) 1 r5 (r6)]))]), (30, smOf [(ref10_Parse_p, fun h k => Gref10_Parse (gB h 0) (gN h 1) (gF h 2) (k (.tup [.agg [.pv (.val (.int .u64 0)), .pv (.val (.int .u64 0)), .pv (.val (.bool false)), .pv (.val (.int .i64 0)), .pv (.val (.int .i64 0)), .pv (.val (.int .i64 0)), .pv (.val (.slice none 0 0))], .c (.pv (.val (.int .i64 11)))]) []) (fun r0 r1 r2 r3 r4 r5 r6 => k (.tup [.agg [.pv (.val (.int .u64 r0)), .pv (.val (.int .u64 r1)), .pv (.val (.bool true)), .pv (.val (.int .i64 r2)), .pv (.val (.int .i64 r3)), .pv (.val (.int .i64 r4)), .own 0], .c (.pv (.val (.int .i64 0)))]) [.parr false (.int .u8 .nil) 1 r5 (r6)]) (fun r0 r1 r2 r3 r4 => k (.tup [.agg [.pv (.val (.int .u64 r0)), .pv (.val (.int .u64 r1)), .pv (.val (.bool false)), .pv (.val (.int .i64 0)), .pv (.val (.int .i64 0)), .pv (.val (.int .i64 r2)), .own 0], .c (.pv (.val (.int .i64 0)))]) [.parr false (.int .u8 .nil) 1 r3 (r4)]))]), (31, smOf [(frame_Good_p, frame_Good_F), (frame_Good_v1_p, fun h k => Gframe_Good_v1 (gI h 0) (gI h 1) (gB h 2) (gI h 3) (gI h 4) (gI h 5) (gB h 6) (gN h 7) (gF h 8) (fun r0 => k (.v (.c (.pv (.val (.bool r0))))) []))]), (32, smOf [(ref10_Good_p, fun h k => Gref10_Good (gI h 0) (gI h 1) (gB h 2) (gI h 3) (gI h 4) (gI h 5) (gB h 6) (gN h 7) (gF h 8) (fun r0 => k (.v (.c (.pv (.val (.bool r0))))) [])), (ref10_Good_v1_p, ref10_Good_v1_F), (ref10_Good_v2_p, ref10_Good_v2_F)]), (23, smOf [(keep_Frames_v3_p, fun h k => Gkeep_Frames_v3 (gI h 0) (gI h 1) (gI h 2) (gI h 3) (gI h 4) (gI h 5) (gI h 6) (gI h 7) (gI h 8) (gI h 9) (gN h 10) (gF h 11) (gN h 12) (gF h 13) (fun r0 r1 r2 r3 r4 => k (.v (.c (.pv (.val (.bool r0))))) [.parr false (.int .u8 .nil) 1 r1 (r2), .parr false (.int .u8 .nil) 1 r3 (r4)])), (keep_Frames_v4_p, fun h k => Gkeep_Frames_v4 (gI h 0) (gI h 1) (gI h 2) (gI h 3) (gI h 4) (gI h 5) (gI h 6) (gI h 7) (gN h 8) (gF h 9) (gN h 10) (gF h 11) (fun r0 r1 r2 r3 => k (.v (.c (.pv (.val (.bool false))))) [.parr false (.int .u8 .nil) 1 r0 (r1), .parr false (.int .u8 .nil) 1 r2 (r3)])), (keep_Frames_v2_p, fun h k => Gkeep_Frames_v2 (gI h 0) (gI h 1) (gI h 2) (gI h 3) (gI h 4) (gN h 5) (gF h 6) (fun r0 r1 => k (.v (.c (.pv (.val (.bool false))))) [.parr false (.int .u8 .nil) 1 r0 (r1)])), (keep_Frames_v6_p, fun h k => Gkeep_Frames_v6 (gI h 0) (gI h 1) (gI h 2) (gI h 3) (gI h 4) (gI h 5) (gI h 6) (gI h 7) (gN h 8) (gF h 9) (gN h 10) (gF h 11) (fun r0 r1 r2 r3 => k (.v (.c (.pv (.val (.bool false))))) [.parr false (.int .u8 .nil) 1 r0 (r1), .parr false (.int .u8 .nil) 1 r2 (r3)])), (keep_Frames_v7_p, fun h k => Gkeep_Frames_v7 (gI h 0) (gI h 1) (gI h 2) (gI h 3) (gI h 4) (gI h 5) (gN h 6) (gF h 7) (gN h 8) (gF h 9) (fun r0 r1 r2 r3 r4 => k (.v (.c (.pv (.val (.bool r0))))) [.parr false (.int .u8 .nil) 1 r1 (r2), .parr false (.int .u8 .nil) 1 r3 (r4)])), (keep_Frames_v5_p, fun h k => Gkeep_Frames_v5 (gI h 0) (gI h 1) (gI h 2) (gN h 3) (gF h 4) (fun r0 r1 r2 => k (.v (.c (.pv (.val (.bool r0))))) [.parr false (.int .u8 .nil) 1 r1 (r2)])), (keep_Frames_p, fun h k => Gkeep_Frames (gI h 0) (gI h 1) (gI h 2) (gI h 3) (gI h 4) (gN h 5) (gF h 6) (fun r0 r1 => k (.v (.c (.pv (.val (.bool false))))) [.parr false (.int .u8 .nil) 1 r0 (r1)])), (keep_Frames_v1_p, fun h k => Gkeep_Frames_v1 (gI h 0) (gI h 1) (gI h 2) (gN h 3) (gF h 4) (fun r0 r1 r2 => k (.v (.c (.pv (.val (.bool r0))))) [.parr false (.int .u8 .nil) 1 r1 (r2)]))])]
def law10_FrameCodes_B (Gframe_Encode : Int → Int → Bool → Int → Int → Int → Nat → (Nat → Nat → PV) → (Nat → (Nat → Nat → PV) → Option Out) → (Nat → (Nat → Nat → PV) → Nat → (Nat → Nat → PV) → Option Out) → Option Out) (Gref10_Encode : Int → Int → Bool → Int → Int → Int → Bool → Nat → (Nat → Nat → PV) → (Option Out) → (Nat → (Nat → Nat → PV) → Option Out) → Option Out) (Gframe_Parse : Nat → (Nat → Nat → PV) → (Nat → (Nat → Nat → PV) → Option Out) → (Int → Int → Int → Int → Int → Nat → (Nat → Nat → PV) → Nat → (Nat → Nat → PV) → Option Out) → (Int → Int → Int → Nat → (Nat → Nat → PV) → Nat → (Nat → Nat → PV) → Option Out) → Option Out) (Gref10_Parse : Bool → Nat → (Nat → Nat → PV) → (Option Out) → (Int → Int → Int → Int → Int → Nat → (Nat → Nat → PV) → Option Out) → (Int → Int → Int → Nat → (Nat → Nat → PV) → Option Out) → Option Out) (Gframe_Good_v1 : Int → Int → Bool → Int → Int → Int → Bool → Nat → (Nat → Nat → PV) → (Bool → Option Out) → Option Out) (Gref10_Good : Int → Int → Bool → Int → Int → Int → Bool → Nat → (Nat → Nat → PV) → (Bool → Option Out) → Option Out) (Gkeep_Frames : Int → Int → Int → Int → Int → Nat → (Nat → Nat → PV) → (Nat → (Nat → Nat → PV) → Option Out) → Option Out) (Gkeep_Frames_v1 : Int → Int → Int → Nat → (Nat → Nat → PV) → (Bool → Nat → (Nat → Nat → PV) → Option Out) → Option Out) (Gkeep_Frames_v2 : Int → Int → Int → Int → Int → Nat → (Nat → Nat → PV) → (Nat → (Nat → Nat → PV) → Option Out) → Option Out) (Gkeep_Frames_v3 : Int → Int → Int → Int → Int → Int → Int → Int → Int → Int → Nat → (Nat → Nat → PV) → Nat → (Nat → Nat → PV) → (Bool → Nat → (Nat → Nat → PV) → Nat → (Nat → Nat → PV) → Option Out) → Option Out) (Gkeep_Frames_v4 : Int → Int → Int → Int → Int → Int → Int → Int → Nat → (Nat → Nat → PV) → Nat → (Nat → Nat → PV) → (Nat → (Nat → Nat → PV) → Nat → (Nat → Nat → PV) → Option Out) → Option Out) (Gkeep_Frames_v5 : Int → Int → Int → Nat → (Nat → Nat → PV) → (Bool → Nat → (Nat → Nat → PV) → Option Out) → Option Out) (Gkeep_Frames_v6 : Int → Int → Int → Int → Int → Int → Int → Int → Nat → (Nat → Nat → PV) → Nat → (Nat → Nat → PV) → (Nat → (Nat → Nat → PV) → Nat → (Nat → Nat → PV) → Option Out) → Option Out) (Gkeep_Frames_v7 : Int → Int → Int → Int → Int → Int → Nat → (Nat → Nat → PV) → Nat → (Nat → Nat → PV) → (Bool → Nat → (Nat → Nat → PV) → Nat → (Nat → Nat → PV) → Option Out) → Option Out) : Hooks := []
theorem law10_FrameCodes_eq (Gframe_Encode : Int → Int → Bool → Int → Int → Int → Nat → (Nat → Nat → PV) → (Nat → (Nat → Nat → PV) → Option Out) → (Nat → (Nat → Nat → PV) → Nat → (Nat → Nat → PV) → Option Out) → Option Out) (Gref10_Encode : Int → Int → Bool → Int → Int → Int → Bool → Nat → (Nat → Nat → PV) → (Option Out) → (Nat → (Nat → Nat → PV) → Option Out) → Option Out) (Gframe_Parse : Nat → (Nat → Nat → PV) → (Nat → (Nat → Nat → PV) → Option Out) → (Int → Int → Int → Int → Int → Nat → (Nat → Nat → PV) → Nat → (Nat → Nat → PV) → Option Out) → (Int → Int → Int → Nat → (Nat → Nat → PV) → Nat → (Nat → Nat → PV) → Option Out) → Option Out) (Gref10_Parse : Bool → Nat → (Nat → Nat → PV) → (Option Out) → (Int → Int → Int → Int → Int → Nat → (Nat → Nat → PV) → Option Out) → (Int → Int → Int → Nat → (Nat → Nat → PV) → Option Out) → Option Out) (Gframe_Good_v1 : Int → Int → Bool → Int → Int → Int → Bool → Nat → (Nat → Nat → PV) → (Bool → Option Out) → Option Out) (Gref10_Good : Int → Int → Bool → Int → Int → Int → Bool → Nat → (Nat → Nat → PV) → (Bool → Option Out) → Option Out) (Gkeep_Frames : Int → Int → Int → Int → Int → Nat → (Nat → Nat → PV) → (Nat → (Nat → Nat → PV) → Option Out) → Option Out) (Gkeep_Frames_v1 : Int → Int → Int → Nat → (Nat → Nat → PV) → (Bool → Nat → (Nat → Nat → PV) → Option Out) → Option Out) (Gkeep_Frames_v2 : Int → Int → Int → Int → Int → Nat → (Nat → Nat → PV) → (Nat → (Nat → Nat → PV) → Option Out) → Option Out) (Gkeep_Frames_v3 : Int → Int → Int → Int → Int → Int → Int → Int → Int → Int → Nat → (Nat → Nat → PV) → Nat → (Nat → Nat → PV) → (Bool → Nat → (Nat → Nat → PV) → Nat → (Nat → Nat → PV) → Option Out) → Option Out) (Gkeep_Frames_v4 : Int → Int → Int → Int → Int → Int → Int → Int → Nat → (Nat → Nat → PV) → Nat → (Nat → Nat → PV) → (Nat → (Nat → Nat → PV) → Nat → (Nat → Nat → PV) → Option Out) → Option Out) (Gkeep_Frames_v5 : Int → Int → Int → Nat → (Nat → Nat → PV) → (Bool → Nat → (Nat → Nat → PV) → Option Out) → Option Out) (Gkeep_Frames_v6 : Int → Int → Int → Int → Int → Int → Int → Int → Nat → (Nat → Nat → PV) → Nat → (Nat → Nat → PV) → (Nat → (Nat → Nat → PV) → Nat → (Nat → Nat → PV) → Option Out) → Option Out) (Gkeep_Frames_v7 : Int → Int → Int → Int → Int → Int → Nat → (Nat → Nat → PV) → Nat → (Nat → Nat → PV) → (Bool → Nat → (Nat → Nat → PV) → Nat → (Nat → Nat → PV) → Option Out) → Option Out) (a_1 : Int) (a_2 : Int) (a_3 : Bool) (a_4 : Int) (a_5 : Int) (a_6 : Int) (a_7 : Bool) (a_8 : Nat) (a_9 : Nat → Nat → PV) (a_10 : Bool) (a_11 : Nat) (a_12 : Nat → Nat → PV) (k : FK) : runS tt (has eql) Try.prog.funcs 1152921504606846976 (law10_FrameCodes_S Gframe_Encode Gref10_Encode Gframe_Parse Gref10_Parse Gframe_Good_v1 Gref10_Good Gkeep_Frames Gkeep_Frames_v1 Gkeep_Frames_v2 Gkeep_Frames_v3 Gkeep_Frames_v4 Gkeep_Frames_v5 Gkeep_Frames_v6 Gkeep_Frames_v7) (law10_FrameCodes_B Gframe_Encode Gref10_Encode Gframe_Parse Gref10_Parse Gframe_Good_v1 Gref10_Good Gkeep_Frames Gkeep_Frames_v1 Gkeep_Frames_v2 Gkeep_Frames_v3 Gkeep_Frames_v4 Gkeep_Frames_v5 Gkeep_Frames_v6 Gkeep_Frames_v7) (has bor) 40 5 [.v (.agg [.pv (.val (.int .u64 a_1)), .pv (.val (.int .u64 a_2)), .pv (.val (.bool a_3)), .pv (.val (.int .i64 a_4)), .pv (.val (.int .i64 a_5)), .pv (.val (.int .i64 a_6)), .pv (.sl a_7 (.int .u8 .nil) 1 a_8 (a_9))]), .v (.c (.pv (.sl a_10 (.int .u8 .nil) 1 a_11 (a_12))))] [] k = law10_FrameCodes_T Gframe_Encode Gref10_Encode Gframe_Parse Gref10_Parse Gframe_Good_v1 Gref10_Good Gkeep_Frames Gkeep_Frames_v1 Gkeep_Frames_v2 Gkeep_Frames_v3 Gkeep_Frames_v4 Gkeep_Frames_v5 Gkeep_Frames_v6 Gkeep_Frames_v7 a_1 a_2 a_3 a_4 a_5 a_6 a_7 a_8 a_9 a_10 a_11 a_12 (k (.v (.c (.pv (.val (.bool true))))) []) (k (.v (.c (.pv (.val (.bool false))))) []) := by kernel_rfl
def law10_FrameCodes_p : PAr := ⟨[.v (.agg [.pv (.int .u64 .h), .pv (.int .u64 .h), .pv (.bool .h), .pv (.int .i64 .h), .pv (.int .i64 .h), .pv (.int .i64 .h), .pv (.sl .h (.int .u8 .nil) 1 .h)]), .v (.c (.pv (.sl .h (.int .u8 .nil) 1 .h)))], []⟩
def law10_FrameCodes_F (h : List Hole) (k : FK) : Option Out := law10_FrameCodes (gI h 0) (gI h 1) (gB h 2) (gI h 3) (gI h 4) (gI h 5) (gB h 6) (gN h 7) (gF h 8) (gB h 9) (gN h 10) (gF h 11) (k (.v (.c (.pv (.val (.bool true))))) []) (k (.v (.c (.pv (.val (.bool false))))) [])
theorem law10_FrameCodes_at (h : List Hole) : CallAt Try.prog 5 (arFill law10_FrameCodes_p h).1 (arFill law10_FrameCodes_p h).2 (law10_FrameCodes_F h) := by
  have e : arFill law10_FrameCodes_p h = ([.v (.agg [.pv (.val (.int .u64 (gI h 0))), .pv (.val (.int .u64 (gI h 1))), .pv (.val (.bool (gB h 2))), .pv (.val (.int .i64 (gI h 3))), .pv (.val (.int .i64 (gI h 4))), .pv (.val (.int .i64 (gI h 5))), .pv (.sl (gB h 6) (.int .u8 .nil) 1 (gN h 7) ((gF h 8)))]), .v (.c (.pv (.sl (gB h 9) (.int .u8 .nil) 1 (gN h 10) ((gF h 11)))))], []) := by kernel_rfl
  rw [e]; exact callAt_of (runS_ok ttOk eqOk mixed (names_ok namesOk) (S := law10_FrameCodes_S frame_Encode ref10_Encode frame_Parse ref10_Parse frame_Good_v1 ref10_Good keep_Frames keep_Frames_v1 keep_Frames_v2 keep_Frames_v3 keep_Frames_v4 keep_Frames_v5 keep_Frames_v6 keep_Frames_v7) (sums_cons yes25_ok (sums_cons (smOf_ok (alts_cons frame_Encode_at alts_nil)) (sums_cons (smOf_ok (alts_cons ref10_Encode_at alts_nil)) (sums_cons (smOf_ok (alts_cons frame_Parse_at alts_nil)) (sums_cons (smOf_ok (alts_cons ref10_Parse_at alts_nil)) (sums_cons (smOf_ok (alts_cons frame_Good_at (alts_cons frame_Good_v1_at alts_nil))) (sums_cons (smOf_ok (alts_cons ref10_Good_at (alts_cons ref10_Good_v1_at (alts_cons ref10_Good_v2_at alts_nil)))) (sums_cons (smOf_ok (alts_cons keep_Frames_v3_at (alts_cons keep_Frames_v4_at (alts_cons keep_Frames_v2_at (alts_cons keep_Frames_v6_at (alts_cons keep_Frames_v7_at (alts_cons keep_Frames_v5_at (alts_cons keep_Frames_at (alts_cons keep_Frames_v1_at alts_nil))))))))) (sums_nil))))))))) (B := law10_FrameCodes_B frame_Encode ref10_Encode frame_Parse ref10_Parse frame_Good_v1 ref10_Good keep_Frames keep_Frames_v1 keep_Frames_v2 keep_Frames_v3 keep_Frames_v4 keep_Frames_v5 keep_Frames_v6 keep_Frames_v7) (hooks_nil) (has bor) 40) fun k => law10_FrameCodes_eq frame_Encode ref10_Encode frame_Parse ref10_Parse frame_Good_v1 ref10_Good keep_Frames keep_Frames_v1 keep_Frames_v2 keep_Frames_v3 keep_Frames_v4 keep_Frames_v5 keep_Frames_v6 keep_Frames_v7 _ _ _ _ _ _ _ _ _ _ _ _ k
theorem call_ok : CallSem Try.prog (runS tt (has eql) Try.prog.funcs 1152921504606846976 (law10_FrameCodes_S frame_Encode ref10_Encode frame_Parse ref10_Parse frame_Good_v1 ref10_Good keep_Frames keep_Frames_v1 keep_Frames_v2 keep_Frames_v3 keep_Frames_v4 keep_Frames_v5 keep_Frames_v6 keep_Frames_v7) (law10_FrameCodes_B frame_Encode ref10_Encode frame_Parse ref10_Parse frame_Good_v1 ref10_Good keep_Frames keep_Frames_v1 keep_Frames_v2 keep_Frames_v3 keep_Frames_v4 keep_Frames_v5 keep_Frames_v6 keep_Frames_v7) (has bor) 40) := runS_ok ttOk eqOk mixed (names_ok namesOk) (S := law10_FrameCodes_S frame_Encode ref10_Encode frame_Parse ref10_Parse frame_Good_v1 ref10_Good keep_Frames keep_Frames_v1 keep_Frames_v2 keep_Frames_v3 keep_Frames_v4 keep_Frames_v5 keep_Frames_v6 keep_Frames_v7) (sums_cons yes25_ok (sums_cons (smOf_ok (alts_cons frame_Encode_at alts_nil)) (sums_cons (smOf_ok (alts_cons ref10_Encode_at alts_nil)) (sums_cons (smOf_ok (alts_cons frame_Parse_at alts_nil)) (sums_cons (smOf_ok (alts_cons ref10_Parse_at alts_nil)) (sums_cons (smOf_ok (alts_cons frame_Good_at (alts_cons frame_Good_v1_at alts_nil))) (sums_cons (smOf_ok (alts_cons ref10_Good_at (alts_cons ref10_Good_v1_at (alts_cons ref10_Good_v2_at alts_nil)))) (sums_cons (smOf_ok (alts_cons keep_Frames_v3_at (alts_cons keep_Frames_v4_at (alts_cons keep_Frames_v2_at (alts_cons keep_Frames_v6_at (alts_cons keep_Frames_v7_at (alts_cons keep_Frames_v5_at (alts_cons keep_Frames_at (alts_cons keep_Frames_v1_at alts_nil))))))))) (sums_nil))))))))) (B := law10_FrameCodes_B frame_Encode ref10_Encode frame_Parse ref10_Parse frame_Good_v1 ref10_Good keep_Frames keep_Frames_v1 keep_Frames_v2 keep_Frames_v3 keep_Frames_v4 keep_Frames_v5 keep_Frames_v6 keep_Frames_v7) (hooks_nil) (has bor) 40
theorem law_eq (a_1 : Int) (a_2 : Int) (a_3 : Bool) (a_4 : Int) (a_5 : Int) (a_6 : Int) (a_7 : Bool) (a_8 : Nat) (a_9 : Nat → Nat → PV) (a_10 : Bool) (a_11 : Nat) (a_12 : Nat → Nat → PV) (k : FK) : runS tt (has eql) Try.prog.funcs 1152921504606846976 (law10_FrameCodes_S frame_Encode ref10_Encode frame_Parse ref10_Parse frame_Good_v1 ref10_Good keep_Frames keep_Frames_v1 keep_Frames_v2 keep_Frames_v3 keep_Frames_v4 keep_Frames_v5 keep_Frames_v6 keep_Frames_v7) (law10_FrameCodes_B frame_Encode ref10_Encode frame_Parse ref10_Parse frame_Good_v1 ref10_Good keep_Frames keep_Frames_v1 keep_Frames_v2 keep_Frames_v3 keep_Frames_v4 keep_Frames_v5 keep_Frames_v6 keep_Frames_v7) (has bor) 40 5 [.v (.agg [.pv (.val (.int .u64 a_1)), .pv (.val (.int .u64 a_2)), .pv (.val (.bool a_3)), .pv (.val (.int .i64 a_4)), .pv (.val (.int .i64 a_5)), .pv (.val (.int .i64 a_6)), .pv (.sl a_7 (.int .u8 .nil) 1 a_8 (a_9))]), .v (.c (.pv (.sl a_10 (.int .u8 .nil) 1 a_11 (a_12))))] [] k = law10_FrameCodes a_1 a_2 a_3 a_4 a_5 a_6 a_7 a_8 a_9 a_10 a_11 a_12 (k (.v (.c (.pv (.val (.bool true))))) []) (k (.v (.c (.pv (.val (.bool false))))) []) := law10_FrameCodes_eq frame_Encode ref10_Encode frame_Parse ref10_Parse frame_Good_v1 ref10_Good keep_Frames keep_Frames_v1 keep_Frames_v2 keep_Frames_v3 keep_Frames_v4 keep_Frames_v5 keep_Frames_v6 keep_Frames_v7 a_1 a_2 a_3 a_4 a_5 a_6 a_7 a_8 a_9 a_10 a_11 a_12 k
end Go.Proofs.Ytampnnhdgnhjaaa.FrameCodes

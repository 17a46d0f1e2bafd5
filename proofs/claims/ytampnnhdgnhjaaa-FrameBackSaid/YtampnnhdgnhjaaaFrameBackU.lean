/- FrameBack: the code of the law and of all that it calls, told by functions over numbers and rows. WRITTEN BY gen.py. -/
import Derived.Test.YtampnnhdgnhjaaaSeat
set_option linter.unusedVariables false
namespace Go.Proofs.Ytampnnhdgnhjaaa.FrameBack
open Go.Ve
set_option maxRecDepth 100000
theorem wakes_eq (k : AV → List AObj → Option Out) : runS tt (has eql) Try.prog.funcs 100000 [] [] opts 40 25 [] [] k = k (.b true) [] := by kernel_rfl
theorem yes25_ok : SumOk Try.prog 25 yes := SumOk.yes (runS_ok ttOk eqOk mixed (names_ok namesOk) sums_nil hooks_nil opts 40) wakes_eq
/- weirgate/mac.Group -/
def mac_Group_T {α : Type}  (a_1 : Int) (k0 : Bool → Option α) : Option α := bif ((shrI .u64 a_1 48) == 0) then
  k0 ((bits .and .u64 (shrI .u64 a_1 40) 1) == 1)
 else k0 false
def mac_Group {α : Type} (a_1 : Int) (k0 : Bool → Option α) : Option α := mac_Group_T  a_1 k0
def mac_Group_S  : List (Nat × Sm) := [(25, yes)]
def mac_Group_B  : Hooks := []
theorem mac_Group_eq  (a_1 : Int) (k : FK) : runS tt (has eql) Try.prog.funcs 1152921504606846976 (mac_Group_S ) (mac_Group_B ) opts 40 56 [.v (.c (.pv (.val (.int .u64 a_1))))] [] k = mac_Group_T  a_1 (fun r0 => k (.v (.c (.pv (.val (.bool r0))))) []) := by kernel_rfl
def mac_Group_p : PAr := ⟨[.v (.c (.pv (.int .u64 .h)))], []⟩
def mac_Group_F (h : List Hole) (k : FK) : Option Out := mac_Group (gI h 0) (fun r0 => k (.v (.c (.pv (.val (.bool r0))))) [])
theorem mac_Group_at (h : List Hole) : CallAt Try.prog 56 (arFill mac_Group_p h).1 (arFill mac_Group_p h).2 (mac_Group_F h) := by
  have e : arFill mac_Group_p h = ([.v (.c (.pv (.val (.int .u64 (gI h 0)))))], []) := by kernel_rfl
  rw [e]; exact callAt_of (runS_ok ttOk eqOk mixed (names_ok namesOk) (S := mac_Group_S ) (sums_cons yes25_ok (sums_nil)) (B := mac_Group_B ) (hooks_nil) opts 40) fun k => mac_Group_eq  _ k
/- weirgate/frame.room -/
def frame_room_T {α : Type}  (a_1 : Bool) (k0 : Int → Option α) : Option α := bif a_1 then
  k0 1500
 else k0 1504
def frame_room {α : Type} (a_1 : Bool) (k0 : Int → Option α) : Option α := frame_room_T  a_1 k0
def frame_room_S  : List (Nat × Sm) := [(25, yes)]
def frame_room_B  : Hooks := []
theorem frame_room_eq  (a_1 : Bool) (k : FK) : runS tt (has eql) Try.prog.funcs 1152921504606846976 (frame_room_S ) (frame_room_B ) opts 40 76 [.v (.c (.pv (.val (.bool a_1))))] [] k = frame_room_T  a_1 (fun r0 => k (.v (.c (.pv (.val (.int .i64 r0))))) []) := by kernel_rfl
def frame_room_p : PAr := ⟨[.v (.c (.pv (.bool .h)))], []⟩
def frame_room_F (h : List Hole) (k : FK) : Option Out := frame_room (gB h 0) (fun r0 => k (.v (.c (.pv (.val (.int .i64 r0))))) [])
theorem frame_room_at (h : List Hole) : CallAt Try.prog 76 (arFill frame_room_p h).1 (arFill frame_room_p h).2 (frame_room_F h) := by
  have e : arFill frame_room_p h = ([.v (.c (.pv (.val (.bool (gB h 0)))))], []) := by kernel_rfl
  rw [e]; exact callAt_of (runS_ok ttOk eqOk mixed (names_ok namesOk) (S := frame_room_S ) (sums_cons yes25_ok (sums_nil)) (B := frame_room_B ) (hooks_nil) opts 40) fun k => frame_room_eq  _ k
/- weirgate/frame.Good -/
def frame_Good_T {α : Type} (Gmac_Group : Int → (Bool → Option α) → Option α) (Gframe_room : Bool → (Int → Option α) → Option α) (a_1 : Int) (a_2 : Int) (a_3 : Bool) (a_4 : Int) (a_5 : Int) (a_6 : Int) (a_7 : Bool) (a_8 : Nat) (a_9 : Nat → Nat → PV) (k0 : Bool → Option α) : Option α := bif !((shrI .u64 a_1 48) == 0) then
  k0 false
 else bif !((shrI .u64 a_2 48) == 0) then
  k0 false
 else Gmac_Group a_2
  (fun r_10 => bif r_10 then
   k0 false
  else bif decide (a_6 < 0) then
   k0 false
  else bif decide (a_6 ≥ 65536) then
   k0 false
  else bif (a_6 == 33024) then
   k0 false
  else Gframe_room a_3
   (fun r_11 => bif decide ((a_8 : Int) > r_11) then
    k0 false
   else bif !a_3 then
    bif (a_4 == 0) then
     k0 (a_5 == 0)
    else k0 false
   else bif decide (a_4 ≥ 0) then
    bif decide (a_4 < 8) then
     bif decide (a_5 ≥ 0) then
      k0 (decide (a_5 < 4096))
     else k0 false
    else k0 false
   else k0 false))
def frame_Good {α : Type} (a_1 : Int) (a_2 : Int) (a_3 : Bool) (a_4 : Int) (a_5 : Int) (a_6 : Int) (a_7 : Bool) (a_8 : Nat) (a_9 : Nat → Nat → PV) (k0 : Bool → Option α) : Option α := frame_Good_T mac_Group frame_room a_1 a_2 a_3 a_4 a_5 a_6 a_7 a_8 a_9 k0
def frame_Good_S (Gmac_Group : Int → (Bool → Option Out) → Option Out) (Gframe_room : Bool → (Int → Option Out) → Option Out) : List (Nat × Sm) := [(25, yes), (56, smOf [(mac_Group_p, fun h k => Gmac_Group (gI h 0) (fun r0 => k (.v (.c (.pv (.val (.bool r0))))) []))]), (76, smOf [(frame_room_p, fun h k => Gframe_room (gB h 0) (fun r0 => k (.v (.c (.pv (.val (.int .i64 r0))))) []))])]
def frame_Good_B (Gmac_Group : Int → (Bool → Option Out) → Option Out) (Gframe_room : Bool → (Int → Option Out) → Option Out) : Hooks := []
theorem frame_Good_eq (Gmac_Group : Int → (Bool → Option Out) → Option Out) (Gframe_room : Bool → (Int → Option Out) → Option Out) (a_1 : Int) (a_2 : Int) (a_3 : Bool) (a_4 : Int) (a_5 : Int) (a_6 : Int) (a_7 : Bool) (a_8 : Nat) (a_9 : Nat → Nat → PV) (k : FK) : runS tt (has eql) Try.prog.funcs 1152921504606846976 (frame_Good_S Gmac_Group Gframe_room) (frame_Good_B Gmac_Group Gframe_room) opts 40 31 [.v (.agg [.pv (.val (.int .u64 a_1)), .pv (.val (.int .u64 a_2)), .pv (.val (.bool a_3)), .pv (.val (.int .i64 a_4)), .pv (.val (.int .i64 a_5)), .pv (.val (.int .i64 a_6)), .pv (.sl a_7 (.int .u8 .nil) 1 a_8 (a_9))])] [] k = frame_Good_T Gmac_Group Gframe_room a_1 a_2 a_3 a_4 a_5 a_6 a_7 a_8 a_9 (fun r0 => k (.v (.c (.pv (.val (.bool r0))))) []) := by kernel_rfl
def frame_Good_p : PAr := ⟨[.v (.agg [.pv (.int .u64 .h), .pv (.int .u64 .h), .pv (.bool .h), .pv (.int .i64 .h), .pv (.int .i64 .h), .pv (.int .i64 .h), .pv (.sl .h (.int .u8 .nil) 1 .h)])], []⟩
def frame_Good_F (h : List Hole) (k : FK) : Option Out := frame_Good (gI h 0) (gI h 1) (gB h 2) (gI h 3) (gI h 4) (gI h 5) (gB h 6) (gN h 7) (gF h 8) (fun r0 => k (.v (.c (.pv (.val (.bool r0))))) [])
theorem frame_Good_at (h : List Hole) : CallAt Try.prog 31 (arFill frame_Good_p h).1 (arFill frame_Good_p h).2 (frame_Good_F h) := by
  have e : arFill frame_Good_p h = ([.v (.agg [.pv (.val (.int .u64 (gI h 0))), .pv (.val (.int .u64 (gI h 1))), .pv (.val (.bool (gB h 2))), .pv (.val (.int .i64 (gI h 3))), .pv (.val (.int .i64 (gI h 4))), .pv (.val (.int .i64 (gI h 5))), .pv (.sl (gB h 6) (.int .u8 .nil) 1 (gN h 7) ((gF h 8)))])], []) := by kernel_rfl
  rw [e]; exact callAt_of (runS_ok ttOk eqOk mixed (names_ok namesOk) (S := frame_Good_S mac_Group frame_room) (sums_cons yes25_ok (sums_cons (smOf_ok (alts_cons mac_Group_at alts_nil)) (sums_cons (smOf_ok (alts_cons frame_room_at alts_nil)) (sums_nil)))) (B := frame_Good_B mac_Group frame_room) (hooks_nil) opts 40) fun k => frame_Good_eq mac_Group frame_room _ _ _ _ _ _ _ _ _ k
def e1 (x0 : Int) : Nat → Nat → PV := rowOf 1 [.val (.int .u8 (IntKind.u8.wrap (shrI .i64 x0 8))), .val (.int .u8 (IntKind.u8.wrap x0))]
def e2 (x0 : Int) (x1 : Int) : Nat → Nat → PV := rowOf 1 [.val (.int .u8 (IntKind.u8.wrap (shrI .i64 (bits .or .i64 (shlI .i64 x0 13) x1) 8))), .val (.int .u8 (IntKind.u8.wrap (bits .or .i64 (shlI .i64 x0 13) x1)))]
def e3 (x0 : Int) (x1 : Int) : Nat → Nat → PV := rowOf 1 [.sl false (.int .u8 .nil) 1 2 (rowOf 1 [.val (.int .u8 129), .val (.int .u8 0)]), .sl false (.int .u8 .nil) 1 2 (e2 x0 x1)]
def e4 : Nat → Nat → PV := putf 0 2 (fun _ j => .val (([.int .u8 0] : List Value).getD j undef)) (rowOf 1 [.val (.int .u8 129), .val (.int .u8 0)])
def e5 (x0 : Int) (x1 : Int) (x2 : Int) (x3 : Int) (x4 : Int) (x5 : Bool) (x6 : Nat) (x7 : Nat → Nat → PV) : Nat → Nat → PV := rowOf 1 [.sl false (.int .u8 .nil) 1 6 (fun j c => pvAt [.pv (.val (.int .u8 (IntKind.u8.wrap (shrI .u64 x0 40)))), .pv (.val (.int .u8 (IntKind.u8.wrap (shrI .u64 x0 32)))), .pv (.val (.int .u8 (IntKind.u8.wrap (shrI .u64 x0 24)))), .pv (.val (.int .u8 (IntKind.u8.wrap (shrI .u64 x0 16)))), .pv (.val (.int .u8 (IntKind.u8.wrap (shrI .u64 x0 8)))), .pv (.val (.int .u8 (IntKind.u8.wrap (shrI .u64 x0 0))))] (0 + j * 1 + c)), .sl false (.int .u8 .nil) 1 6 (fun j c => pvAt [.pv (.val (.int .u8 (IntKind.u8.wrap (shrI .u64 x1 40)))), .pv (.val (.int .u8 (IntKind.u8.wrap (shrI .u64 x1 32)))), .pv (.val (.int .u8 (IntKind.u8.wrap (shrI .u64 x1 24)))), .pv (.val (.int .u8 (IntKind.u8.wrap (shrI .u64 x1 16)))), .pv (.val (.int .u8 (IntKind.u8.wrap (shrI .u64 x1 8)))), .pv (.val (.int .u8 (IntKind.u8.wrap (shrI .u64 x1 0))))] (0 + j * 1 + c)), .sl false (.int .u8 .nil) 1 4 (putf 2 2 (e4) (e2 x2 x3)), .sl false (.int .u8 .nil) 1 2 (e1 x4), .sl x5 (.int .u8 .nil) 1 x6 (x7)]
def e6 (x0 : Int) : Nat → Nat → PV := fun j c => pvAt [.pv (.val (.int .u8 (IntKind.u8.wrap (shrI .u64 x0 40)))), .pv (.val (.int .u8 (IntKind.u8.wrap (shrI .u64 x0 32)))), .pv (.val (.int .u8 (IntKind.u8.wrap (shrI .u64 x0 24)))), .pv (.val (.int .u8 (IntKind.u8.wrap (shrI .u64 x0 16)))), .pv (.val (.int .u8 (IntKind.u8.wrap (shrI .u64 x0 8)))), .pv (.val (.int .u8 (IntKind.u8.wrap (shrI .u64 x0 0))))] (0 + j * 1 + c)
def e7 (x0 : Int) (x1 : Int) : Nat → Nat → PV := putf 6 6 (putf 0 6 (fun _ j => .val (([.int .u8 0] : List Value).getD j undef)) (e6 x0)) (e6 x1)
def e8 (x0 : Nat) (x1 : Int) (x2 : Int) (x3 : Int) (x4 : Int) (x5 : Int) (x6 : Nat → Nat → PV) : Nat → Nat → PV := putf 18 x0 (putf 16 2 (putf 12 4 (e7 x1 x2) (putf 2 2 (e4) (e2 x3 x4))) (e1 x5)) (x6)
def e9 (x0 : Nat) : Bool := (Nat.beq ((IntKind.i64.wrap ((IntKind.i64.wrap (18 + (x0 : Int))) - 0)).toNat) 0 && Nat.beq x0 0)
def e10 (x0 : Nat) : Bool := (Nat.beq ((IntKind.i64.wrap ((IntKind.i64.wrap (18 + (x0 : Int))) - 0)).toNat) 0 && false)
def e11 (x0 : Int) (x1 : Int) : Nat → Nat → PV := catf 6 (putf 0 6 (fun _ j => .val (([.int .u8 0] : List Value).getD j undef)) (e6 x0)) (e6 x1)
def e12 (x0 : Int) (x1 : Int) : Nat → Nat → PV := catf 6 (catf 0 (fun _ j => .val (([.int .u8 0] : List Value).getD j undef)) (e6 x0)) (e6 x1)
def e13 (x0 : Int) (x1 : Int) (x2 : Int) (x3 : Int) : Nat → Nat → PV := catf 12 (catf 6 (catf 0 (fun _ _ => .val undef) (e6 x0)) (e6 x1)) (putf 2 2 (e4) (e2 x2 x3))
def e14 (x0 : Int) (x1 : Int) (x2 : Int) (x3 : Bool) (x4 : Nat) (x5 : Nat → Nat → PV) : Nat → Nat → PV := rowOf 1 [.sl false (.int .u8 .nil) 1 6 (fun j c => pvAt [.pv (.val (.int .u8 (IntKind.u8.wrap (shrI .u64 x0 40)))), .pv (.val (.int .u8 (IntKind.u8.wrap (shrI .u64 x0 32)))), .pv (.val (.int .u8 (IntKind.u8.wrap (shrI .u64 x0 24)))), .pv (.val (.int .u8 (IntKind.u8.wrap (shrI .u64 x0 16)))), .pv (.val (.int .u8 (IntKind.u8.wrap (shrI .u64 x0 8)))), .pv (.val (.int .u8 (IntKind.u8.wrap (shrI .u64 x0 0))))] (0 + j * 1 + c)), .sl false (.int .u8 .nil) 1 6 (fun j c => pvAt [.pv (.val (.int .u8 (IntKind.u8.wrap (shrI .u64 x1 40)))), .pv (.val (.int .u8 (IntKind.u8.wrap (shrI .u64 x1 32)))), .pv (.val (.int .u8 (IntKind.u8.wrap (shrI .u64 x1 24)))), .pv (.val (.int .u8 (IntKind.u8.wrap (shrI .u64 x1 16)))), .pv (.val (.int .u8 (IntKind.u8.wrap (shrI .u64 x1 8)))), .pv (.val (.int .u8 (IntKind.u8.wrap (shrI .u64 x1 0))))] (0 + j * 1 + c)), .val (.slice none 0 0), .sl false (.int .u8 .nil) 1 2 (e1 x2), .sl x3 (.int .u8 .nil) 1 x4 (x5)]
def e15 (x0 : Nat) : Bool := (Nat.beq ((IntKind.i64.wrap ((IntKind.i64.wrap (14 + (x0 : Int))) - 0)).toNat) 0 && Nat.beq x0 0)
def e16 (x0 : Nat) : Bool := (Nat.beq ((IntKind.i64.wrap ((IntKind.i64.wrap (14 + (x0 : Int))) - 0)).toNat) 0 && false)
def e17 (x0 : Nat) : Bool := (Nat.beq ((IntKind.i64.wrap ((IntKind.i64.wrap (14 + (x0 : Int))) - 0)).toNat) 0 && true)
def e18 (x0 : Int) (x1 : Int) : Nat → Nat → PV := catf 12 (catf 6 (catf 0 (fun _ _ => .val undef) (e6 x0)) (e6 x1)) (fun _ _ => .val undef)
/- weirgate/frame.Encode -/
def frame_Encode_T {α : Type} (Gframe_Good : Int → Int → Bool → Int → Int → Int → Bool → Nat → (Nat → Nat → PV) → (Bool → Option α) → Option α) (a_1 : Int) (a_2 : Int) (a_3 : Bool) (a_4 : Int) (a_5 : Int) (a_6 : Int) (a_7 : Bool) (a_8 : Nat) (a_9 : Nat → Nat → PV) (k0 : (Nat → Nat → PV) → Option α) (k1 : Bool → Nat → (Nat → Nat → PV) → Option α) : Option α := Gframe_Good a_1 a_2 a_3 a_4 a_5 a_6 a_7 a_8 a_9
  (fun r_10 => bif !r_10 then
   k0 (fun _ _ => .val undef)
  else bif a_3 then
   bif decide ((IntKind.i64.wrap (18 + (a_8 : Int))) < 0) then
    none /- op makeInterface -/
   else bif decide ((IntKind.i64.wrap (18 + (a_8 : Int))) < 0) then
    none /- op makeInterface -/
   else bif decide ((IntKind.i64.wrap ((IntKind.i64.wrap (18 + (a_8 : Int))) - 0)) > 0) then
    bif (decide (0 ≤ IntKind.i64.wrap ((IntKind.i64.wrap (18 + (a_8 : Int))) - 0)) && decide (IntKind.i64.wrap ((IntKind.i64.wrap (18 + (a_8 : Int))) - 0) ≤ 4611686018427387904)) then
     bif Nat.ble (((IntKind.i64.wrap ((IntKind.i64.wrap (18 + (a_8 : Int))) - 0)).toNat) * 1) bound then
      bif inb 0 (((IntKind.i64.wrap ((IntKind.i64.wrap (18 + (a_8 : Int))) - 0)).toNat) + 1) then
       bif (Nat.ble 6 ((IntKind.i64.wrap ((IntKind.i64.wrap (18 + (a_8 : Int))) - 0)).toNat) && true) then
        bif (Nat.ble 12 ((IntKind.i64.wrap ((IntKind.i64.wrap (18 + (a_8 : Int))) - 0)).toNat) && true) then
         bif (Nat.ble 16 ((IntKind.i64.wrap ((IntKind.i64.wrap (18 + (a_8 : Int))) - 0)).toNat) && true) then
          bif (Nat.ble 18 ((IntKind.i64.wrap ((IntKind.i64.wrap (18 + (a_8 : Int))) - 0)).toNat) && true) then
           bif (Nat.ble (18 + a_8) ((IntKind.i64.wrap ((IntKind.i64.wrap (18 + (a_8 : Int))) - 0)).toNat) && Nat.ble ((18 + a_8) * 1) bound) then
            k1 (Nat.beq ((IntKind.i64.wrap ((IntKind.i64.wrap (18 + (a_8 : Int))) - 0)).toNat) 0) (18 + a_8) (e8 a_8 a_1 a_2 a_4 a_5 a_6 a_9)
           else bif (Nat.ble 18 ((IntKind.i64.wrap ((IntKind.i64.wrap (18 + (a_8 : Int))) - 0)).toNat) && Nat.ble ((18 + a_8) * 1) bound) then
            k1 (e9 a_8) (18 + a_8) (catf 18 (putf 16 2 (putf 12 4 (e7 a_1 a_2) (putf 2 2 (e4) (e2 a_4 a_5))) (e1 a_6)) (a_9))
           else none /- test -/
          else bif (Nat.ble 16 ((IntKind.i64.wrap ((IntKind.i64.wrap (18 + (a_8 : Int))) - 0)).toNat) && true) then
           bif Nat.ble ((18 + a_8) * 1) bound then
            k1 (e10 a_8 && Nat.beq a_8 0) (18 + a_8) (catf 18 (catf 16 (putf 12 4 (e7 a_1 a_2) (putf 2 2 (e4) (e2 a_4 a_5))) (e1 a_6)) (a_9))
           else none /- test -/
          else none /- test -/
         else bif (Nat.ble 12 ((IntKind.i64.wrap ((IntKind.i64.wrap (18 + (a_8 : Int))) - 0)).toNat) && true) then
          bif Nat.ble ((18 + a_8) * 1) bound then
           k1 ((e10 a_8 && false) && Nat.beq a_8 0) (18 + a_8) (catf 18 (catf 16 (catf 12 (e7 a_1 a_2) (putf 2 2 (e4) (e2 a_4 a_5))) (e1 a_6)) (a_9))
          else none /- test -/
         else none /- test -/
        else bif (Nat.ble 6 ((IntKind.i64.wrap ((IntKind.i64.wrap (18 + (a_8 : Int))) - 0)).toNat) && true) then
         bif Nat.ble ((18 + a_8) * 1) bound then
          k1 (((e10 a_8 && false) && false) && Nat.beq a_8 0) (18 + a_8) (catf 18 (catf 16 (catf 12 (e11 a_1 a_2) (putf 2 2 (e4) (e2 a_4 a_5))) (e1 a_6)) (a_9))
         else none /- test -/
        else none /- test -/
       else bif (Nat.ble 0 ((IntKind.i64.wrap ((IntKind.i64.wrap (18 + (a_8 : Int))) - 0)).toNat) && true) then
        bif Nat.ble ((18 + a_8) * 1) bound then
         k1 ((((e10 a_8 && false) && false) && false) && Nat.beq a_8 0) (18 + a_8) (catf 18 (catf 16 (catf 12 (e12 a_1 a_2) (putf 2 2 (e4) (e2 a_4 a_5))) (e1 a_6)) (a_9))
        else none /- test -/
       else none /- test -/
      else none /- test -/
     else none /- test -/
    else none /- test -/
   else bif Nat.ble ((18 + a_8) * 1) bound then
    k1 false (18 + a_8) (catf 18 (catf 16 (e13 a_1 a_2 a_4 a_5) (e1 a_6)) (a_9))
   else none /- test -/
  else bif decide ((IntKind.i64.wrap (14 + (a_8 : Int))) < 0) then
   none /- op makeInterface -/
  else bif decide ((IntKind.i64.wrap (14 + (a_8 : Int))) < 0) then
   none /- op makeInterface -/
  else bif decide ((IntKind.i64.wrap ((IntKind.i64.wrap (14 + (a_8 : Int))) - 0)) > 0) then
   bif (decide (0 ≤ IntKind.i64.wrap ((IntKind.i64.wrap (14 + (a_8 : Int))) - 0)) && decide (IntKind.i64.wrap ((IntKind.i64.wrap (14 + (a_8 : Int))) - 0) ≤ 4611686018427387904)) then
    bif Nat.ble (((IntKind.i64.wrap ((IntKind.i64.wrap (14 + (a_8 : Int))) - 0)).toNat) * 1) bound then
     bif inb 0 (((IntKind.i64.wrap ((IntKind.i64.wrap (14 + (a_8 : Int))) - 0)).toNat) + 1) then
      bif (Nat.ble 6 ((IntKind.i64.wrap ((IntKind.i64.wrap (14 + (a_8 : Int))) - 0)).toNat) && true) then
       bif (Nat.ble 12 ((IntKind.i64.wrap ((IntKind.i64.wrap (14 + (a_8 : Int))) - 0)).toNat) && true) then
        bif (Nat.ble 12 ((IntKind.i64.wrap ((IntKind.i64.wrap (14 + (a_8 : Int))) - 0)).toNat) && true) then
         bif (Nat.ble 14 ((IntKind.i64.wrap ((IntKind.i64.wrap (14 + (a_8 : Int))) - 0)).toNat) && true) then
          bif (Nat.ble (14 + a_8) ((IntKind.i64.wrap ((IntKind.i64.wrap (14 + (a_8 : Int))) - 0)).toNat) && Nat.ble ((14 + a_8) * 1) bound) then
           k1 (Nat.beq ((IntKind.i64.wrap ((IntKind.i64.wrap (14 + (a_8 : Int))) - 0)).toNat) 0) (14 + a_8) (putf 14 a_8 (putf 12 2 (putf 12 0 (e7 a_1 a_2) (fun _ _ => .val undef)) (e1 a_6)) (a_9))
          else bif (Nat.ble 14 ((IntKind.i64.wrap ((IntKind.i64.wrap (14 + (a_8 : Int))) - 0)).toNat) && Nat.ble ((14 + a_8) * 1) bound) then
           k1 (e15 a_8) (14 + a_8) (catf 14 (putf 12 2 (putf 12 0 (e7 a_1 a_2) (fun _ _ => .val undef)) (e1 a_6)) (a_9))
          else none /- test -/
         else bif (Nat.ble 12 ((IntKind.i64.wrap ((IntKind.i64.wrap (14 + (a_8 : Int))) - 0)).toNat) && true) then
          bif Nat.ble ((14 + a_8) * 1) bound then
           k1 (e16 a_8 && Nat.beq a_8 0) (14 + a_8) (catf 14 (catf 12 (putf 12 0 (e7 a_1 a_2) (fun _ _ => .val undef)) (e1 a_6)) (a_9))
          else none /- test -/
         else none /- test -/
        else bif (Nat.ble 12 ((IntKind.i64.wrap ((IntKind.i64.wrap (14 + (a_8 : Int))) - 0)).toNat) && true) then
         bif Nat.ble ((14 + a_8) * 1) bound then
          k1 ((e17 a_8 && false) && Nat.beq a_8 0) (14 + a_8) (catf 14 (catf 12 (catf 12 (e7 a_1 a_2) (fun _ _ => .val undef)) (e1 a_6)) (a_9))
         else none /- test -/
        else none /- test -/
       else bif (Nat.ble 6 ((IntKind.i64.wrap ((IntKind.i64.wrap (14 + (a_8 : Int))) - 0)).toNat) && true) then
        bif Nat.ble ((14 + a_8) * 1) bound then
         k1 (((e16 a_8 && true) && false) && Nat.beq a_8 0) (14 + a_8) (catf 14 (catf 12 (catf 12 (e11 a_1 a_2) (fun _ _ => .val undef)) (e1 a_6)) (a_9))
        else none /- test -/
       else none /- test -/
      else bif (Nat.ble 0 ((IntKind.i64.wrap ((IntKind.i64.wrap (14 + (a_8 : Int))) - 0)).toNat) && true) then
       bif Nat.ble ((14 + a_8) * 1) bound then
        k1 ((((e16 a_8 && false) && true) && false) && Nat.beq a_8 0) (14 + a_8) (catf 14 (catf 12 (catf 12 (e12 a_1 a_2) (fun _ _ => .val undef)) (e1 a_6)) (a_9))
       else none /- test -/
      else none /- test -/
     else none /- test -/
    else none /- test -/
   else none /- test -/
  else bif Nat.ble ((14 + a_8) * 1) bound then
   k1 false (14 + a_8) (catf 14 (catf 12 (e18 a_1 a_2) (e1 a_6)) (a_9))
  else none /- test -/)
def frame_Encode {α : Type} (a_1 : Int) (a_2 : Int) (a_3 : Bool) (a_4 : Int) (a_5 : Int) (a_6 : Int) (a_7 : Bool) (a_8 : Nat) (a_9 : Nat → Nat → PV) (k0 : (Nat → Nat → PV) → Option α) (k1 : Bool → Nat → (Nat → Nat → PV) → Option α) : Option α := frame_Encode_T frame_Good a_1 a_2 a_3 a_4 a_5 a_6 a_7 a_8 a_9 k0 k1
def frame_Encode_S (Gframe_Good : Int → Int → Bool → Int → Int → Int → Bool → Nat → (Nat → Nat → PV) → (Bool → Option Out) → Option Out) : List (Nat × Sm) := [(25, yes), (31, smOf [(frame_Good_p, fun h k => Gframe_Good (gI h 0) (gI h 1) (gB h 2) (gI h 3) (gI h 4) (gI h 5) (gB h 6) (gN h 7) (gF h 8) (fun r0 => k (.v (.c (.pv (.val (.bool r0))))) []))])]
def frame_Encode_B (Gframe_Good : Int → Int → Bool → Int → Int → Int → Bool → Nat → (Nat → Nat → PV) → (Bool → Option Out) → Option Out) : Hooks := []
theorem frame_Encode_eq (Gframe_Good : Int → Int → Bool → Int → Int → Int → Bool → Nat → (Nat → Nat → PV) → (Bool → Option Out) → Option Out) (a_1 : Int) (a_2 : Int) (a_3 : Bool) (a_4 : Int) (a_5 : Int) (a_6 : Int) (a_7 : Bool) (a_8 : Nat) (a_9 : Nat → Nat → PV) (k : FK) : runS tt (has eql) Try.prog.funcs 1152921504606846976 (frame_Encode_S Gframe_Good) (frame_Encode_B Gframe_Good) opts 40 26 [.v (.agg [.pv (.val (.int .u64 a_1)), .pv (.val (.int .u64 a_2)), .pv (.val (.bool a_3)), .pv (.val (.int .i64 a_4)), .pv (.val (.int .i64 a_5)), .pv (.val (.int .i64 a_6)), .pv (.sl a_7 (.int .u8 .nil) 1 a_8 (a_9))])] [] k = frame_Encode_T Gframe_Good a_1 a_2 a_3 a_4 a_5 a_6 a_7 a_8 a_9 (fun r0 => k (.tup [.c (.own 0), .c (.pv (.val (.int .i64 11)))]) [.parr false true (.int .u8 .nil) 1 0 (r0)]) (fun r0 r1 r2 => k (.tup [.c (.own 0), .c (.pv (.val (.int .i64 0)))]) [.parr false r0 (.int .u8 .nil) 1 r1 (r2)]) := by kernel_rfl
def frame_Encode_p : PAr := ⟨[.v (.agg [.pv (.int .u64 .h), .pv (.int .u64 .h), .pv (.bool .h), .pv (.int .i64 .h), .pv (.int .i64 .h), .pv (.int .i64 .h), .pv (.sl .h (.int .u8 .nil) 1 .h)])], []⟩
def frame_Encode_F (h : List Hole) (k : FK) : Option Out := frame_Encode (gI h 0) (gI h 1) (gB h 2) (gI h 3) (gI h 4) (gI h 5) (gB h 6) (gN h 7) (gF h 8) (fun r0 => k (.tup [.c (.own 0), .c (.pv (.val (.int .i64 11)))]) [.parr false true (.int .u8 .nil) 1 0 (r0)]) (fun r0 r1 r2 => k (.tup [.c (.own 0), .c (.pv (.val (.int .i64 0)))]) [.parr false r0 (.int .u8 .nil) 1 r1 (r2)])
theorem frame_Encode_at (h : List Hole) : CallAt Try.prog 26 (arFill frame_Encode_p h).1 (arFill frame_Encode_p h).2 (frame_Encode_F h) := by
  have e : arFill frame_Encode_p h = ([.v (.agg [.pv (.val (.int .u64 (gI h 0))), .pv (.val (.int .u64 (gI h 1))), .pv (.val (.bool (gB h 2))), .pv (.val (.int .i64 (gI h 3))), .pv (.val (.int .i64 (gI h 4))), .pv (.val (.int .i64 (gI h 5))), .pv (.sl (gB h 6) (.int .u8 .nil) 1 (gN h 7) ((gF h 8)))])], []) := by kernel_rfl
  rw [e]; exact callAt_of (runS_ok ttOk eqOk mixed (names_ok namesOk) (S := frame_Encode_S frame_Good) (sums_cons yes25_ok (sums_cons (smOf_ok (alts_cons frame_Good_at alts_nil)) (sums_nil))) (B := frame_Encode_B frame_Good) (hooks_nil) opts 40) fun k => frame_Encode_eq frame_Good _ _ _ _ _ _ _ _ _ k
/- weirgate/mac.Of: loop 0 -/
def mac_Of_L0_S  : List (Nat × Sm) := [(25, yes)]
def mac_Of_L0_B  : Hooks := []
noncomputable def mac_Of_L0_C  : Ctx := { tt := tt, eqs := has eql, call := runS tt (has eql) Try.prog.funcs 1152921504606846976 (mac_Of_L0_S ) (mac_Of_L0_B ) opts 40, fuel := 1152921504606846976, blk := fun i => aget [] i, bor := opts.bor }
def mac_Of_L0_lo : Vx → List Nat := fun | .normal => [4] | .exit j => (fun _ => []) j | .ret => [2, 3]
def mac_Of_L0_h0 (a_1 : Int) (a_2 : Bool) (a_3 : Nat) (a_4 : Nat → Nat → PV) (a_5 : Int) (a_6 : Int) : St := { n := 23, m := 0, t := [(4, .v (.c (.pv (.val (.int .u64 a_1))))), (10, .v (.c (.pv (.sl a_2 (.int .u8 .nil) 1 a_3 (a_4))))), (11, .v (.c (.pv (.val (.int .i64 a_5))))), (12, .v (.c (.pv (.val (.int .i64 a_6)))))], h := [], nx := 0 }
def mac_Of_L0_x0 (r0 : Int) : St := { n := 23, m := 0, t := [(4, .v (.c (.pv (.val (.int .u64 r0)))))], h := [], nx := 0 }
def mac_Of_L0_s0 {α : Type}  (rec0 : Int → Bool → Nat → (Nat → Nat → PV) → Int → Int → Option α) (k0 : Int → Option α) (a_1 : Int) (a_2 : Bool) (a_3 : Nat) (a_4 : Nat → Nat → PV) (a_5 : Int) (a_6 : Int) : Option α := bif decide (a_6 < a_5) then
  bif inb a_6 a_3 then
   rec0 (bits .or .u64 (shlI .u64 a_1 8) (IntKind.u64.wrap (numOf (a_4 a_6.toNat 0)))) a_2 a_3 a_4 a_5 (IntKind.i64.wrap (a_6 + 1))
  else none /- test -/
 else k0 a_1
def mac_Of_L0_l0 {α : Type} (k0 : Int → Option α) : Nat → Int → Bool → Nat → (Nat → Nat → PV) → Int → Int → Option α
  | 0 => fun _ _ _ _ _ _ => none
  | n + 1 => mac_Of_L0_s0  (mac_Of_L0_l0 k0 n) k0
theorem mac_Of_L0_s0_eq  (k : Kont) (n : Nat) (a_1 : Int) (a_2 : Bool) (a_3 : Nat) (a_4 : Nat → Nat → PV) (a_5 : Int) (a_6 : Int) : loopN (fun st k => exec (mac_Of_L0_C ) (loopBody (codeAt Try.f72 0)) st k) [4, 10, 11, 12] (loopK 0 (kn mac_Of_L0_lo k)) (n + 1) (mac_Of_L0_h0 a_1 a_2 a_3 a_4 a_5 a_6) = mac_Of_L0_s0  (fun a_1 a_2 a_3 a_4 a_5 a_6 => loopN (fun st k => exec (mac_Of_L0_C ) (loopBody (codeAt Try.f72 0)) st k) [4, 10, 11, 12] (loopK 0 (kn mac_Of_L0_lo k)) n (mac_Of_L0_h0 a_1 a_2 a_3 a_4 a_5 a_6)) (fun r0 => k .normal (mac_Of_L0_x0 r0)) a_1 a_2 a_3 a_4 a_5 a_6 := by kernel_rfl
theorem mac_Of_L0_l0_eq (k : Kont) : ∀ (n : Nat) (a_1 : Int) (a_2 : Bool) (a_3 : Nat) (a_4 : Nat → Nat → PV) (a_5 : Int) (a_6 : Int), loopN (fun st k => exec (mac_Of_L0_C ) (loopBody (codeAt Try.f72 0)) st k) [4, 10, 11, 12] (loopK 0 (kn mac_Of_L0_lo k)) n (mac_Of_L0_h0 a_1 a_2 a_3 a_4 a_5 a_6) = mac_Of_L0_l0 (fun r0 => k .normal (mac_Of_L0_x0 r0)) n a_1 a_2 a_3 a_4 a_5 a_6
  | 0, _, _, _, _, _, _ => rfl
  | n + 1, a_1, a_2, a_3, a_4, a_5, a_6 => by
    have r0 : (fun a_1 a_2 a_3 a_4 a_5 a_6 => loopN (fun st k => exec (mac_Of_L0_C ) (loopBody (codeAt Try.f72 0)) st k) [4, 10, 11, 12] (loopK 0 (kn mac_Of_L0_lo k)) n (mac_Of_L0_h0 a_1 a_2 a_3 a_4 a_5 a_6)) = mac_Of_L0_l0 (fun r0 => k .normal (mac_Of_L0_x0 r0)) n := funext fun a_1 => funext fun a_2 => funext fun a_3 => funext fun a_4 => funext fun a_5 => funext fun a_6 => mac_Of_L0_l0_eq k n a_1 a_2 a_3 a_4 a_5 a_6
    exact (mac_Of_L0_s0_eq  k n a_1 a_2 a_3 a_4 a_5 a_6).trans (by rw [r0]; rfl)
def mac_Of_L0 {α : Type} (a_1 : Bool) (a_2 : Nat) (a_3 : Nat → Nat → PV) (a_4 : Int) (k0 : Int → Option α) : Option α := mac_Of_L0_l0 k0 1152921504606846976 0 a_1 a_2 a_3 a_4 0
def mac_Of_L0_e (a_1 : Bool) (a_2 : Nat) (a_3 : Nat → Nat → PV) (a_4 : Int) : St := { n := 23, m := 0, t := [(4, .v (.c (.pv (.val (.int .u64 0))))), (10, .v (.c (.pv (.sl a_1 (.int .u8 .nil) 1 a_2 (a_3))))), (11, .v (.c (.pv (.val (.int .i64 a_4))))), (12, .v (.c (.pv (.val (.int .i64 0)))))], h := [], nx := 0 }
theorem mac_Of_L0_eq (a_1 : Bool) (a_2 : Nat) (a_3 : Nat → Nat → PV) (a_4 : Int) (k : Kont) : exec (mac_Of_L0_C ) (codeAt Try.f72 0) (mac_Of_L0_e a_1 a_2 a_3 a_4) (kn mac_Of_L0_lo k) = mac_Of_L0 a_1 a_2 a_3 a_4 (fun r0 => k .normal (mac_Of_L0_x0 r0)) :=
  (by kernel_rfl : _ = loopN (fun st k => exec (mac_Of_L0_C ) (loopBody (codeAt Try.f72 0)) st k) [4, 10, 11, 12] (loopK 0 (kn mac_Of_L0_lo k)) 1152921504606846976 (mac_Of_L0_h0 0 a_1 a_2 a_3 a_4 0)).trans (mac_Of_L0_l0_eq k 1152921504606846976 0 a_1 a_2 a_3 a_4 0)
def mac_Of_L0_p : PSt := { n := 23, m := 0, t := [(4, .v (.c (.pv (.int .u64 (.l 0))))), (10, .v (.c (.pv (.sl .h (.int .u8 .nil) 1 .h)))), (11, .v (.c (.pv (.int .i64 .h)))), (12, .v (.c (.pv (.int .i64 (.l 0)))))], h := [], nx := 0 }
def mac_Of_L0_F (h : List Hole) (k : Kont) : Option Out := mac_Of_L0 (gB h 0) (gN h 1) (gF h 2) (gI h 3) (fun r0 => k .normal (mac_Of_L0_x0 r0))
theorem mac_Of_L0_at (h : List Hole) : BodyAt Try.prog (codeAt Try.f72 0) (stFill mac_Of_L0_p h) (mac_Of_L0_F h) := by
  have e : stFill mac_Of_L0_p h = mac_Of_L0_e (gB h 0) (gN h 1) (gF h 2) (gI h 3) := by kernel_rfl
  rw [e]; exact bodyAt_of (C := mac_Of_L0_C ) ⟨ttOk, eqOk, runS_ok ttOk eqOk mixed (names_ok namesOk) (S := mac_Of_L0_S ) (sums_cons yes25_ok (sums_nil)) (B := mac_Of_L0_B ) (hooks_nil) opts 40⟩ mixed (hooked_in (by kernel_rfl) blk_nil 0) fun k => mac_Of_L0_eq _ _ _ _ k
/- weirgate/mac.Of -/
def mac_Of_T {α : Type} (Gmac_Of_L0 : Bool → Nat → (Nat → Nat → PV) → Int → (Int → Option α) → Option α) (a_1 : Bool) (a_2 : Nat) (a_3 : Nat → Nat → PV) (k0 : Option α) (k1 : Int → Option α) : Option α := bif ((a_2 : Int) != 6) then
  k0
 else Gmac_Of_L0 a_1 a_2 a_3 (a_2 : Int)
  (fun r_4 => k1 r_4)
def mac_Of {α : Type} (a_1 : Bool) (a_2 : Nat) (a_3 : Nat → Nat → PV) (k0 : Option α) (k1 : Int → Option α) : Option α := mac_Of_T mac_Of_L0 a_1 a_2 a_3 k0 k1
def mac_Of_S (Gmac_Of_L0 : Bool → Nat → (Nat → Nat → PV) → Int → (Int → Option Out) → Option Out) : List (Nat × Sm) := [(25, yes)]
def mac_Of_B (Gmac_Of_L0 : Bool → Nat → (Nat → Nat → PV) → Int → (Int → Option Out) → Option Out) : Hooks := [(72, [(0, hookG [4, 10, 11, 12] [] (bkOf [(mac_Of_L0_p, fun h k => Gmac_Of_L0 (gB h 0) (gN h 1) (gF h 2) (gI h 3) (fun r0 => k .normal (mac_Of_L0_x0 r0)))]))])]
theorem mac_Of_eq (Gmac_Of_L0 : Bool → Nat → (Nat → Nat → PV) → Int → (Int → Option Out) → Option Out) (a_1 : Bool) (a_2 : Nat) (a_3 : Nat → Nat → PV) (k : FK) : runS tt (has eql) Try.prog.funcs 1152921504606846976 (mac_Of_S Gmac_Of_L0) (mac_Of_B Gmac_Of_L0) opts 40 72 [.v (.c (.pv (.sl a_1 (.int .u8 .nil) 1 a_2 (a_3))))] [] k = mac_Of_T Gmac_Of_L0 a_1 a_2 a_3 (k (.tup [.c (.pv (.val (.int .u64 0))), .c (.pv (.val (.int .i64 11)))]) []) (fun r0 => k (.tup [.c (.pv (.val (.int .u64 r0))), .c (.pv (.val (.int .i64 0)))]) []) := by kernel_rfl
def mac_Of_p : PAr := ⟨[.v (.c (.pv (.sl .h (.int .u8 .nil) 1 .h)))], []⟩
def mac_Of_F (h : List Hole) (k : FK) : Option Out := mac_Of (gB h 0) (gN h 1) (gF h 2) (k (.tup [.c (.pv (.val (.int .u64 0))), .c (.pv (.val (.int .i64 11)))]) []) (fun r0 => k (.tup [.c (.pv (.val (.int .u64 r0))), .c (.pv (.val (.int .i64 0)))]) [])
theorem mac_Of_at (h : List Hole) : CallAt Try.prog 72 (arFill mac_Of_p h).1 (arFill mac_Of_p h).2 (mac_Of_F h) := by
  have e : arFill mac_Of_p h = ([.v (.c (.pv (.sl (gB h 0) (.int .u8 .nil) 1 (gN h 1) ((gF h 2)))))], []) := by kernel_rfl
  rw [e]; exact callAt_of (runS_ok ttOk eqOk mixed (names_ok namesOk) (S := mac_Of_S mac_Of_L0) (sums_cons yes25_ok (sums_nil)) (B := mac_Of_B mac_Of_L0) (hooks_add (fn := Try.f72) (by kernel_rfl) (by kernel_rfl) (blk_cons (bkOf_ok (blts_cons mac_Of_L0_at blts_nil)) blk_nil) (hooks_nil)) opts 40) fun k => mac_Of_eq mac_Of_L0 _ _ _ k
def e19 (x0 : Nat → Nat → PV) : Int := bits .or .i64 (shlI .i64 (IntKind.i64.wrap (numOf (x0 0 0))) 8) (IntKind.i64.wrap (numOf (x0 1 0)))
def e20 (x0 : Nat → Nat → PV) : Int := bits .or .i64 (shlI .i64 (IntKind.i64.wrap (numOf (x0 12 0))) 8) (IntKind.i64.wrap (numOf (x0 13 0)))
def e21 (x0 : Nat → Nat → PV) : Int := bits .or .i64 (shlI .i64 (IntKind.i64.wrap (numOf (x0 14 0))) 8) (IntKind.i64.wrap (numOf (x0 15 0)))
def e22 (x0 : Nat → Nat → PV) : Int := bits .or .i64 (shlI .i64 (IntKind.i64.wrap (numOf (x0 16 0))) 8) (IntKind.i64.wrap (numOf (x0 17 0)))
/- slices.Clone[[]byte,byte] -/
def slices_Clone_byte_byte_T {α : Type}  (a_1 : Bool) (a_2 : Nat) (a_3 : Nat → Nat → PV) (k0 : Bool → Nat → (Nat → Nat → PV) → Option α) : Option α := bif a_1 then
  k0 true 0 (fun _ _ => .val undef)
 else bif Nat.ble ((0 + a_2) * 1) bound then
  k0 false (0 + a_2) (catf 0 (rowOf 1 []) (a_3))
 else none /- test -/
def slices_Clone_byte_byte {α : Type} (a_1 : Bool) (a_2 : Nat) (a_3 : Nat → Nat → PV) (k0 : Bool → Nat → (Nat → Nat → PV) → Option α) : Option α := slices_Clone_byte_byte_T  a_1 a_2 a_3 k0
def slices_Clone_byte_byte_S  : List (Nat × Sm) := [(25, yes)]
def slices_Clone_byte_byte_B  : Hooks := []
theorem slices_Clone_byte_byte_eq  (a_1 : Bool) (a_2 : Nat) (a_3 : Nat → Nat → PV) (k : FK) : runS tt (has eql) Try.prog.funcs 1152921504606846976 (slices_Clone_byte_byte_S ) (slices_Clone_byte_byte_B ) opts 40 74 [.v (.c (.pv (.sl a_1 (.int .u8 .nil) 1 a_2 (a_3))))] [] k = slices_Clone_byte_byte_T  a_1 a_2 a_3 (fun r0 r1 r2 => k (.v (.c (.own 0))) [.parr false r0 (.int .u8 .nil) 1 r1 (r2)]) := by kernel_rfl
def slices_Clone_byte_byte_p : PAr := ⟨[.v (.c (.pv (.sl .h (.int .u8 .nil) 1 .h)))], []⟩
def slices_Clone_byte_byte_F (h : List Hole) (k : FK) : Option Out := slices_Clone_byte_byte (gB h 0) (gN h 1) (gF h 2) (fun r0 r1 r2 => k (.v (.c (.own 0))) [.parr false r0 (.int .u8 .nil) 1 r1 (r2)])
theorem slices_Clone_byte_byte_at (h : List Hole) : CallAt Try.prog 74 (arFill slices_Clone_byte_byte_p h).1 (arFill slices_Clone_byte_byte_p h).2 (slices_Clone_byte_byte_F h) := by
  have e : arFill slices_Clone_byte_byte_p h = ([.v (.c (.pv (.sl (gB h 0) (.int .u8 .nil) 1 (gN h 1) ((gF h 2)))))], []) := by kernel_rfl
  rw [e]; exact callAt_of (runS_ok ttOk eqOk mixed (names_ok namesOk) (S := slices_Clone_byte_byte_S ) (sums_cons yes25_ok (sums_nil)) (B := slices_Clone_byte_byte_B ) (hooks_nil) opts 40) fun k => slices_Clone_byte_byte_eq  _ _ _ k
/- weirgate/frame.Parse -/
def frame_Parse_T {α : Type} (Gmac_Of : Bool → Nat → (Nat → Nat → PV) → (Option α) → (Int → Option α) → Option α) (Gslices_Clone_byte_byte : Bool → Nat → (Nat → Nat → PV) → (Bool → Nat → (Nat → Nat → PV) → Option α) → Option α) (Gframe_Good : Int → Int → Bool → Int → Int → Int → Bool → Nat → (Nat → Nat → PV) → (Bool → Option α) → Option α) (a_1 : Bool) (a_2 : Nat) (a_3 : Nat → Nat → PV) (k0 : Int → Int → Bool → Int → Int → Int → Int → Bool → Nat → (Nat → Nat → PV) → Option α) : Option α := bif decide ((a_2 : Int) < 14) then
  k0 0 0 false 0 0 0 11 true 0 (fun _ _ => .val undef)
 else bif inb 6 (a_2 + 1) then
  Gmac_Of a_1 6 (fun j c => (a_3) (0 + j) c)
   (bif inb 12 (a_2 + 1) then
    Gmac_Of a_1 6 (fun j c => (a_3) (6 + j) c)
     (bif inb (a_2 : Int) (a_2 + 1) then
      bif decide (12 ≤ (a_2 : Int)) then
       bif inb 0 (a_2 - 12) then
        bif inb 1 (a_2 - 12) then
         bif ((e20 a_3) == 33024) then
          bif decide (((a_2 - 12 : Nat) : Int) < 6) then
           k0 0 0 false 0 0 0 11 true 0 (fun _ _ => .val undef)
          else bif inb ((a_2 - 12 : Nat) : Int) ((a_2 - 12) + 1) then
           bif decide (2 ≤ ((a_2 - 12 : Nat) : Int)) then
            bif inb 0 ((a_2 - 12) - 2) then
             bif inb 1 ((a_2 - 12) - 2) then
              bif inb ((a_2 - 12 : Nat) : Int) ((a_2 - 12) + 1) then
               bif decide (4 ≤ ((a_2 - 12 : Nat) : Int)) then
                bif inb 0 ((a_2 - 12) - 4) then
                 bif inb 1 ((a_2 - 12) - 4) then
                  bif inb (((a_2 - 12) - 4 : Nat) : Int) (((a_2 - 12) - 4) + 1) then
                   bif decide (2 ≤ (((a_2 - 12) - 4 : Nat) : Int)) then
                    Gslices_Clone_byte_byte a_1 (((a_2 - 12) - 4) - 2) (fun j c => (fun j c => (fun j c => (a_3) (12 + j) c) (4 + j) c) (2 + j) c)
                     (fun r_4 r_5 r_6 => Gframe_Good 0 0 true (shrI .i64 (e21 a_3) 13) (bits .and .i64 (e21 a_3) 8191) (e22 a_3) r_4 r_5 r_6
                      (fun r_7 => bif !r_7 then
                       k0 0 0 false 0 0 0 11 true 0 (fun _ _ => .val undef)
                      else k0 0 0 true (shrI .i64 (e21 a_3) 13) (bits .and .i64 (e21 a_3) 8191) (e22 a_3) 0 r_4 r_5 r_6))
                   else none /- test -/
                  else none /- test -/
                 else none /- test -/
                else none /- test -/
               else none /- test -/
              else none /- test -/
             else none /- test -/
            else none /- test -/
           else none /- test -/
          else none /- test -/
         else bif inb 0 (a_2 - 12) then
          bif inb 1 (a_2 - 12) then
           bif inb ((a_2 - 12 : Nat) : Int) ((a_2 - 12) + 1) then
            bif decide (2 ≤ ((a_2 - 12 : Nat) : Int)) then
             Gslices_Clone_byte_byte a_1 ((a_2 - 12) - 2) (fun j c => (fun j c => (a_3) (12 + j) c) (2 + j) c)
              (fun r_4 r_5 r_6 => Gframe_Good 0 0 false 0 0 (e20 a_3) r_4 r_5 r_6
               (fun r_7 => bif !r_7 then
                k0 0 0 false 0 0 0 11 true 0 (fun _ _ => .val undef)
               else k0 0 0 false 0 0 (e20 a_3) 0 r_4 r_5 r_6))
            else none /- test -/
           else none /- test -/
          else none /- test -/
         else none /- test -/
        else none /- test -/
       else none /- test -/
      else none /- test -/
     else none /- test -/)
     (fun r_4 => bif inb (a_2 : Int) (a_2 + 1) then
      bif decide (12 ≤ (a_2 : Int)) then
       bif inb 0 (a_2 - 12) then
        bif inb 1 (a_2 - 12) then
         bif ((e20 a_3) == 33024) then
          bif decide (((a_2 - 12 : Nat) : Int) < 6) then
           k0 0 0 false 0 0 0 11 true 0 (fun _ _ => .val undef)
          else bif inb ((a_2 - 12 : Nat) : Int) ((a_2 - 12) + 1) then
           bif decide (2 ≤ ((a_2 - 12 : Nat) : Int)) then
            bif inb 0 ((a_2 - 12) - 2) then
             bif inb 1 ((a_2 - 12) - 2) then
              bif inb ((a_2 - 12 : Nat) : Int) ((a_2 - 12) + 1) then
               bif decide (4 ≤ ((a_2 - 12 : Nat) : Int)) then
                bif inb 0 ((a_2 - 12) - 4) then
                 bif inb 1 ((a_2 - 12) - 4) then
                  bif inb (((a_2 - 12) - 4 : Nat) : Int) (((a_2 - 12) - 4) + 1) then
                   bif decide (2 ≤ (((a_2 - 12) - 4 : Nat) : Int)) then
                    Gslices_Clone_byte_byte a_1 (((a_2 - 12) - 4) - 2) (fun j c => (fun j c => (fun j c => (a_3) (12 + j) c) (4 + j) c) (2 + j) c)
                     (fun r_5 r_6 r_7 => Gframe_Good 0 r_4 true (shrI .i64 (e21 a_3) 13) (bits .and .i64 (e21 a_3) 8191) (e22 a_3) r_5 r_6 r_7
                      (fun r_8 => bif !r_8 then
                       k0 0 0 false 0 0 0 11 true 0 (fun _ _ => .val undef)
                      else k0 0 r_4 true (shrI .i64 (e21 a_3) 13) (bits .and .i64 (e21 a_3) 8191) (e22 a_3) 0 r_5 r_6 r_7))
                   else none /- test -/
                  else none /- test -/
                 else none /- test -/
                else none /- test -/
               else none /- test -/
              else none /- test -/
             else none /- test -/
            else none /- test -/
           else none /- test -/
          else none /- test -/
         else bif inb 0 (a_2 - 12) then
          bif inb 1 (a_2 - 12) then
           bif inb ((a_2 - 12 : Nat) : Int) ((a_2 - 12) + 1) then
            bif decide (2 ≤ ((a_2 - 12 : Nat) : Int)) then
             Gslices_Clone_byte_byte a_1 ((a_2 - 12) - 2) (fun j c => (fun j c => (a_3) (12 + j) c) (2 + j) c)
              (fun r_5 r_6 r_7 => Gframe_Good 0 r_4 false 0 0 (e20 a_3) r_5 r_6 r_7
               (fun r_8 => bif !r_8 then
                k0 0 0 false 0 0 0 11 true 0 (fun _ _ => .val undef)
               else k0 0 r_4 false 0 0 (e20 a_3) 0 r_5 r_6 r_7))
            else none /- test -/
           else none /- test -/
          else none /- test -/
         else none /- test -/
        else none /- test -/
       else none /- test -/
      else none /- test -/
     else none /- test -/)
   else none /- test -/)
   (fun r_4 => bif inb 12 (a_2 + 1) then
    Gmac_Of a_1 6 (fun j c => (a_3) (6 + j) c)
     (bif inb (a_2 : Int) (a_2 + 1) then
      bif decide (12 ≤ (a_2 : Int)) then
       bif inb 0 (a_2 - 12) then
        bif inb 1 (a_2 - 12) then
         bif ((e20 a_3) == 33024) then
          bif decide (((a_2 - 12 : Nat) : Int) < 6) then
           k0 0 0 false 0 0 0 11 true 0 (fun _ _ => .val undef)
          else bif inb ((a_2 - 12 : Nat) : Int) ((a_2 - 12) + 1) then
           bif decide (2 ≤ ((a_2 - 12 : Nat) : Int)) then
            bif inb 0 ((a_2 - 12) - 2) then
             bif inb 1 ((a_2 - 12) - 2) then
              bif inb ((a_2 - 12 : Nat) : Int) ((a_2 - 12) + 1) then
               bif decide (4 ≤ ((a_2 - 12 : Nat) : Int)) then
                bif inb 0 ((a_2 - 12) - 4) then
                 bif inb 1 ((a_2 - 12) - 4) then
                  bif inb (((a_2 - 12) - 4 : Nat) : Int) (((a_2 - 12) - 4) + 1) then
                   bif decide (2 ≤ (((a_2 - 12) - 4 : Nat) : Int)) then
                    Gslices_Clone_byte_byte a_1 (((a_2 - 12) - 4) - 2) (fun j c => (fun j c => (fun j c => (a_3) (12 + j) c) (4 + j) c) (2 + j) c)
                     (fun r_5 r_6 r_7 => Gframe_Good r_4 0 true (shrI .i64 (e21 a_3) 13) (bits .and .i64 (e21 a_3) 8191) (e22 a_3) r_5 r_6 r_7
                      (fun r_8 => bif !r_8 then
                       k0 0 0 false 0 0 0 11 true 0 (fun _ _ => .val undef)
                      else k0 r_4 0 true (shrI .i64 (e21 a_3) 13) (bits .and .i64 (e21 a_3) 8191) (e22 a_3) 0 r_5 r_6 r_7))
                   else none /- test -/
                  else none /- test -/
                 else none /- test -/
                else none /- test -/
               else none /- test -/
              else none /- test -/
             else none /- test -/
            else none /- test -/
           else none /- test -/
          else none /- test -/
         else bif inb 0 (a_2 - 12) then
          bif inb 1 (a_2 - 12) then
           bif inb ((a_2 - 12 : Nat) : Int) ((a_2 - 12) + 1) then
            bif decide (2 ≤ ((a_2 - 12 : Nat) : Int)) then
             Gslices_Clone_byte_byte a_1 ((a_2 - 12) - 2) (fun j c => (fun j c => (a_3) (12 + j) c) (2 + j) c)
              (fun r_5 r_6 r_7 => Gframe_Good r_4 0 false 0 0 (e20 a_3) r_5 r_6 r_7
               (fun r_8 => bif !r_8 then
                k0 0 0 false 0 0 0 11 true 0 (fun _ _ => .val undef)
               else k0 r_4 0 false 0 0 (e20 a_3) 0 r_5 r_6 r_7))
            else none /- test -/
           else none /- test -/
          else none /- test -/
         else none /- test -/
        else none /- test -/
       else none /- test -/
      else none /- test -/
     else none /- test -/)
     (fun r_5 => bif inb (a_2 : Int) (a_2 + 1) then
      bif decide (12 ≤ (a_2 : Int)) then
       bif inb 0 (a_2 - 12) then
        bif inb 1 (a_2 - 12) then
         bif ((e20 a_3) == 33024) then
          bif decide (((a_2 - 12 : Nat) : Int) < 6) then
           k0 0 0 false 0 0 0 11 true 0 (fun _ _ => .val undef)
          else bif inb ((a_2 - 12 : Nat) : Int) ((a_2 - 12) + 1) then
           bif decide (2 ≤ ((a_2 - 12 : Nat) : Int)) then
            bif inb 0 ((a_2 - 12) - 2) then
             bif inb 1 ((a_2 - 12) - 2) then
              bif inb ((a_2 - 12 : Nat) : Int) ((a_2 - 12) + 1) then
               bif decide (4 ≤ ((a_2 - 12 : Nat) : Int)) then
                bif inb 0 ((a_2 - 12) - 4) then
                 bif inb 1 ((a_2 - 12) - 4) then
                  bif inb (((a_2 - 12) - 4 : Nat) : Int) (((a_2 - 12) - 4) + 1) then
                   bif decide (2 ≤ (((a_2 - 12) - 4 : Nat) : Int)) then
                    Gslices_Clone_byte_byte a_1 (((a_2 - 12) - 4) - 2) (fun j c => (fun j c => (fun j c => (a_3) (12 + j) c) (4 + j) c) (2 + j) c)
                     (fun r_6 r_7 r_8 => Gframe_Good r_4 r_5 true (shrI .i64 (e21 a_3) 13) (bits .and .i64 (e21 a_3) 8191) (e22 a_3) r_6 r_7 r_8
                      (fun r_9 => bif !r_9 then
                       k0 0 0 false 0 0 0 11 true 0 (fun _ _ => .val undef)
                      else k0 r_4 r_5 true (shrI .i64 (e21 a_3) 13) (bits .and .i64 (e21 a_3) 8191) (e22 a_3) 0 r_6 r_7 r_8))
                   else none /- test -/
                  else none /- test -/
                 else none /- test -/
                else none /- test -/
               else none /- test -/
              else none /- test -/
             else none /- test -/
            else none /- test -/
           else none /- test -/
          else none /- test -/
         else bif inb 0 (a_2 - 12) then
          bif inb 1 (a_2 - 12) then
           bif inb ((a_2 - 12 : Nat) : Int) ((a_2 - 12) + 1) then
            bif decide (2 ≤ ((a_2 - 12 : Nat) : Int)) then
             Gslices_Clone_byte_byte a_1 ((a_2 - 12) - 2) (fun j c => (fun j c => (a_3) (12 + j) c) (2 + j) c)
              (fun r_6 r_7 r_8 => Gframe_Good r_4 r_5 false 0 0 (e20 a_3) r_6 r_7 r_8
               (fun r_9 => bif !r_9 then
                k0 0 0 false 0 0 0 11 true 0 (fun _ _ => .val undef)
               else k0 r_4 r_5 false 0 0 (e20 a_3) 0 r_6 r_7 r_8))
            else none /- test -/
           else none /- test -/
          else none /- test -/
         else none /- test -/
        else none /- test -/
       else none /- test -/
      else none /- test -/
     else none /- test -/)
   else none /- test -/)
 else none /- test -/
def frame_Parse {α : Type} (a_1 : Bool) (a_2 : Nat) (a_3 : Nat → Nat → PV) (k0 : Int → Int → Bool → Int → Int → Int → Int → Bool → Nat → (Nat → Nat → PV) → Option α) : Option α := frame_Parse_T mac_Of slices_Clone_byte_byte frame_Good a_1 a_2 a_3 k0
def frame_Parse_S (Gmac_Of : Bool → Nat → (Nat → Nat → PV) → (Option Out) → (Int → Option Out) → Option Out) (Gslices_Clone_byte_byte : Bool → Nat → (Nat → Nat → PV) → (Bool → Nat → (Nat → Nat → PV) → Option Out) → Option Out) (Gframe_Good : Int → Int → Bool → Int → Int → Int → Bool → Nat → (Nat → Nat → PV) → (Bool → Option Out) → Option Out) : List (Nat × Sm) := [(25, yes), (72, smOf [(mac_Of_p, fun h k => Gmac_Of (gB h 0) (gN h 1) (gF h 2) (k (.tup [.c (.pv (.val (.int .u64 0))), .c (.pv (.val (.int .i64 11)))]) []) (fun r0 => k (.tup [.c (.pv (.val (.int .u64 r0))), .c (.pv (.val (.int .i64 0)))]) []))]), (74, smOf [(slices_Clone_byte_byte_p, fun h k => Gslices_Clone_byte_byte (gB h 0) (gN h 1) (gF h 2) (fun r0 r1 r2 => k (.v (.c (.own 0))) [.parr false r0 (.int .u8 .nil) 1 r1 (r2)]))]), (31, smOf [(frame_Good_p, fun h k => Gframe_Good (gI h 0) (gI h 1) (gB h 2) (gI h 3) (gI h 4) (gI h 5) (gB h 6) (gN h 7) (gF h 8) (fun r0 => k (.v (.c (.pv (.val (.bool r0))))) []))])]
def frame_Parse_B (Gmac_Of : Bool → Nat → (Nat → Nat → PV) → (Option Out) → (Int → Option Out) → Option Out) (Gslices_Clone_byte_byte : Bool → Nat → (Nat → Nat → PV) → (Bool → Nat → (Nat → Nat → PV) → Option Out) → Option Out) (Gframe_Good : Int → Int → Bool → Int → Int → Int → Bool → Nat → (Nat → Nat → PV) → (Bool → Option Out) → Option Out) : Hooks := []
theorem frame_Parse_eq (Gmac_Of : Bool → Nat → (Nat → Nat → PV) → (Option Out) → (Int → Option Out) → Option Out) (Gslices_Clone_byte_byte : Bool → Nat → (Nat → Nat → PV) → (Bool → Nat → (Nat → Nat → PV) → Option Out) → Option Out) (Gframe_Good : Int → Int → Bool → Int → Int → Int → Bool → Nat → (Nat → Nat → PV) → (Bool → Option Out) → Option Out) (a_1 : Bool) (a_2 : Nat) (a_3 : Nat → Nat → PV) (k : FK) : runS tt (has eql) Try.prog.funcs 1152921504606846976 (frame_Parse_S Gmac_Of Gslices_Clone_byte_byte Gframe_Good) (frame_Parse_B Gmac_Of Gslices_Clone_byte_byte Gframe_Good) opts 40 29 [.v (.c (.pv (.sl a_1 (.int .u8 .nil) 1 a_2 (a_3))))] [] k = frame_Parse_T Gmac_Of Gslices_Clone_byte_byte Gframe_Good a_1 a_2 a_3 (fun r0 r1 r2 r3 r4 r5 r6 r7 r8 r9 => k (.tup [.agg [.pv (.val (.int .u64 r0)), .pv (.val (.int .u64 r1)), .pv (.val (.bool r2)), .pv (.val (.int .i64 r3)), .pv (.val (.int .i64 r4)), .pv (.val (.int .i64 r5)), .own 0], .c (.pv (.val (.int .i64 r6)))]) [.parr false r7 (.int .u8 .nil) 1 r8 (r9)]) := by kernel_rfl
def frame_Parse_p : PAr := ⟨[.v (.c (.pv (.sl .h (.int .u8 .nil) 1 .h)))], []⟩
def frame_Parse_F (h : List Hole) (k : FK) : Option Out := frame_Parse (gB h 0) (gN h 1) (gF h 2) (fun r0 r1 r2 r3 r4 r5 r6 r7 r8 r9 => k (.tup [.agg [.pv (.val (.int .u64 r0)), .pv (.val (.int .u64 r1)), .pv (.val (.bool r2)), .pv (.val (.int .i64 r3)), .pv (.val (.int .i64 r4)), .pv (.val (.int .i64 r5)), .own 0], .c (.pv (.val (.int .i64 r6)))]) [.parr false r7 (.int .u8 .nil) 1 r8 (r9)])
theorem frame_Parse_at (h : List Hole) : CallAt Try.prog 29 (arFill frame_Parse_p h).1 (arFill frame_Parse_p h).2 (frame_Parse_F h) := by
  have e : arFill frame_Parse_p h = ([.v (.c (.pv (.sl (gB h 0) (.int .u8 .nil) 1 (gN h 1) ((gF h 2)))))], []) := by kernel_rfl
  rw [e]; exact callAt_of (runS_ok ttOk eqOk mixed (names_ok namesOk) (S := frame_Parse_S mac_Of slices_Clone_byte_byte frame_Good) (sums_cons yes25_ok (sums_cons (smOf_ok (alts_cons mac_Of_at alts_nil)) (sums_cons (smOf_ok (alts_cons slices_Clone_byte_byte_at alts_nil)) (sums_cons (smOf_ok (alts_cons frame_Good_at alts_nil)) (sums_nil))))) (B := frame_Parse_B mac_Of slices_Clone_byte_byte frame_Good) (hooks_nil) opts 40) fun k => frame_Parse_eq mac_Of slices_Clone_byte_byte frame_Good _ _ _ k
/- weirgate/weirgatekeep.Frames -/
def keep_Frames_T {α : Type}  (a_1 : Int) (a_2 : Int) (a_3 : Bool) (a_4 : Int) (a_5 : Int) (a_6 : Int) (a_7 : Bool) (a_8 : Nat) (a_9 : Nat → Nat → PV) (a_10 : Int) (a_11 : Int) (a_12 : Bool) (a_13 : Int) (a_14 : Int) (a_15 : Int) (a_16 : Bool) (a_17 : Nat) (a_18 : Nat → Nat → PV) (k0 : Bool → Option α) : Option α := bif (a_1 == a_10) then
  bif (a_2 == a_11) then
   bif (a_3 == a_12) then
    bif (a_4 == a_13) then
     bif (a_5 == a_14) then
      bif (a_6 == a_15) then
       k0 ((strOf a_8 (a_9)).toList == (strOf a_17 (a_18)).toList)
      else k0 false
     else k0 false
    else k0 false
   else k0 false
  else k0 false
 else k0 false
def keep_Frames {α : Type} (a_1 : Int) (a_2 : Int) (a_3 : Bool) (a_4 : Int) (a_5 : Int) (a_6 : Int) (a_7 : Bool) (a_8 : Nat) (a_9 : Nat → Nat → PV) (a_10 : Int) (a_11 : Int) (a_12 : Bool) (a_13 : Int) (a_14 : Int) (a_15 : Int) (a_16 : Bool) (a_17 : Nat) (a_18 : Nat → Nat → PV) (k0 : Bool → Option α) : Option α := keep_Frames_T  a_1 a_2 a_3 a_4 a_5 a_6 a_7 a_8 a_9 a_10 a_11 a_12 a_13 a_14 a_15 a_16 a_17 a_18 k0
def keep_Frames_S  : List (Nat × Sm) := [(25, yes)]
def keep_Frames_B  : Hooks := []
theorem keep_Frames_eq  (a_1 : Int) (a_2 : Int) (a_3 : Bool) (a_4 : Int) (a_5 : Int) (a_6 : Int) (a_7 : Bool) (a_8 : Nat) (a_9 : Nat → Nat → PV) (a_10 : Int) (a_11 : Int) (a_12 : Bool) (a_13 : Int) (a_14 : Int) (a_15 : Int) (a_16 : Bool) (a_17 : Nat) (a_18 : Nat → Nat → PV) (k : FK) : runS tt (has eql) Try.prog.funcs 1152921504606846976 (keep_Frames_S ) (keep_Frames_B ) opts 40 23 [.v (.agg [.pv (.val (.int .u64 a_1)), .pv (.val (.int .u64 a_2)), .pv (.val (.bool a_3)), .pv (.val (.int .i64 a_4)), .pv (.val (.int .i64 a_5)), .pv (.val (.int .i64 a_6)), .pv (.sl a_7 (.int .u8 .nil) 1 a_8 (a_9))]), .v (.agg [.pv (.val (.int .u64 a_10)), .pv (.val (.int .u64 a_11)), .pv (.val (.bool a_12)), .pv (.val (.int .i64 a_13)), .pv (.val (.int .i64 a_14)), .pv (.val (.int .i64 a_15)), .pv (.sl a_16 (.int .u8 .nil) 1 a_17 (a_18))])] [] k = keep_Frames_T  a_1 a_2 a_3 a_4 a_5 a_6 a_7 a_8 a_9 a_10 a_11 a_12 a_13 a_14 a_15 a_16 a_17 a_18 (fun r0 => k (.v (.c (.pv (.val (.bool r0))))) []) := by kernel_rfl
def keep_Frames_p : PAr := ⟨[.v (.agg [.pv (.int .u64 .h), .pv (.int .u64 .h), .pv (.bool .h), .pv (.int .i64 .h), .pv (.int .i64 .h), .pv (.int .i64 .h), .pv (.sl .h (.int .u8 .nil) 1 .h)]), .v (.agg [.pv (.int .u64 .h), .pv (.int .u64 .h), .pv (.bool .h), .pv (.int .i64 .h), .pv (.int .i64 .h), .pv (.int .i64 .h), .pv (.sl .h (.int .u8 .nil) 1 .h)])], []⟩
def keep_Frames_F (h : List Hole) (k : FK) : Option Out := keep_Frames (gI h 0) (gI h 1) (gB h 2) (gI h 3) (gI h 4) (gI h 5) (gB h 6) (gN h 7) (gF h 8) (gI h 9) (gI h 10) (gB h 11) (gI h 12) (gI h 13) (gI h 14) (gB h 15) (gN h 16) (gF h 17) (fun r0 => k (.v (.c (.pv (.val (.bool r0))))) [])
theorem keep_Frames_at (h : List Hole) : CallAt Try.prog 23 (arFill keep_Frames_p h).1 (arFill keep_Frames_p h).2 (keep_Frames_F h) := by
  have e : arFill keep_Frames_p h = ([.v (.agg [.pv (.val (.int .u64 (gI h 0))), .pv (.val (.int .u64 (gI h 1))), .pv (.val (.bool (gB h 2))), .pv (.val (.int .i64 (gI h 3))), .pv (.val (.int .i64 (gI h 4))), .pv (.val (.int .i64 (gI h 5))), .pv (.sl (gB h 6) (.int .u8 .nil) 1 (gN h 7) ((gF h 8)))]), .v (.agg [.pv (.val (.int .u64 (gI h 9))), .pv (.val (.int .u64 (gI h 10))), .pv (.val (.bool (gB h 11))), .pv (.val (.int .i64 (gI h 12))), .pv (.val (.int .i64 (gI h 13))), .pv (.val (.int .i64 (gI h 14))), .pv (.sl (gB h 15) (.int .u8 .nil) 1 (gN h 16) ((gF h 17)))])], []) := by kernel_rfl
  rw [e]; exact callAt_of (runS_ok ttOk eqOk mixed (names_ok namesOk) (S := keep_Frames_S ) (sums_cons yes25_ok (sums_nil)) (B := keep_Frames_B ) (hooks_nil) opts 40) fun k => keep_Frames_eq  _ _ _ _ _ _ _ _ _ _ _ _ _ _ _ _ _ _ k
/- weirgate/weirgatelaw10.FrameBack: from region 3 on -/
def law10_FrameBack_Q3_S (Gframe_Encode : Int → Int → Bool → Int → Int → Int → Bool → Nat → (Nat → Nat → PV) → ((Nat → Nat → PV) → Option Out) → (Bool → Nat → (Nat → Nat → PV) → Option Out) → Option Out) (Gframe_Parse : Bool → Nat → (Nat → Nat → PV) → (Int → Int → Bool → Int → Int → Int → Int → Bool → Nat → (Nat → Nat → PV) → Option Out) → Option Out) (Gkeep_Frames : Int → Int → Bool → Int → Int → Int → Bool → Nat → (Nat → Nat → PV) → Int → Int → Bool → Int → Int → Int → Bool → Nat → (Nat → Nat → PV) → (Bool → Option Out) → Option Out) : List (Nat × Sm) := [(25, yes), (26, smOf [(frame_Encode_p, fun h k => Gframe_Encode (gI h 0) (gI h 1) (gB h 2) (gI h 3) (gI h 4) (gI h 5) (gB h 6) (gN h 7) (gF h 8) (fun r0 => k (.tup [.c (.own 0), .c (.pv (.val (.int .i64 11)))]) [.parr false true (.int .u8 .nil) 1 0 (r0)]) (fun r0 r1 r2 => k (.tup [.c (.own 0), .c (.pv (.val (.int .i64 0)))]) [.parr false r0 (.int .u8 .nil) 1 r1 (r2)]))]), (29, smOf [(frame_Parse_p, fun h k => Gframe_Parse (gB h 0) (gN h 1) (gF h 2) (fun r0 r1 r2 r3 r4 r5 r6 r7 r8 r9 => k (.tup [.agg [.pv (.val (.int .u64 r0)), .pv (.val (.int .u64 r1)), .pv (.val (.bool r2)), .pv (.val (.int .i64 r3)), .pv (.val (.int .i64 r4)), .pv (.val (.int .i64 r5)), .own 0], .c (.pv (.val (.int .i64 r6)))]) [.parr false r7 (.int .u8 .nil) 1 r8 (r9)]))]), (23, smOf [(keep_Frames_p, fun h k => Gkeep_Frames (gI h 0) (gI h 1) (gB h 2) (gI h 3) (gI h 4) (gI h 5) (gB h 6) (gN h 7) (gF h 8) (gI h 9) (gI h 10) (gB h 11) (gI h 12) (gI h 13) (gI h 14) (gB h 15) (gN h 16) (gF h 17) (fun r0 => k (.v (.c (.pv (.val (.bool r0))))) []))])]
def law10_FrameBack_Q3_B (Gframe_Encode : Int → Int → Bool → Int → Int → Int → Bool → Nat → (Nat → Nat → PV) → ((Nat → Nat → PV) → Option Out) → (Bool → Nat → (Nat → Nat → PV) → Option Out) → Option Out) (Gframe_Parse : Bool → Nat → (Nat → Nat → PV) → (Int → Int → Bool → Int → Int → Int → Int → Bool → Nat → (Nat → Nat → PV) → Option Out) → Option Out) (Gkeep_Frames : Int → Int → Bool → Int → Int → Int → Bool → Nat → (Nat → Nat → PV) → Int → Int → Bool → Int → Int → Int → Bool → Nat → (Nat → Nat → PV) → (Bool → Option Out) → Option Out) : Hooks := []
noncomputable def law10_FrameBack_Q3_C (Gframe_Encode : Int → Int → Bool → Int → Int → Int → Bool → Nat → (Nat → Nat → PV) → ((Nat → Nat → PV) → Option Out) → (Bool → Nat → (Nat → Nat → PV) → Option Out) → Option Out) (Gframe_Parse : Bool → Nat → (Nat → Nat → PV) → (Int → Int → Bool → Int → Int → Int → Int → Bool → Nat → (Nat → Nat → PV) → Option Out) → Option Out) (Gkeep_Frames : Int → Int → Bool → Int → Int → Int → Bool → Nat → (Nat → Nat → PV) → Int → Int → Bool → Int → Int → Int → Bool → Nat → (Nat → Nat → PV) → (Bool → Option Out) → Option Out) : Ctx := { tt := tt, eqs := has eql, call := runS tt (has eql) Try.prog.funcs 1152921504606846976 (law10_FrameBack_Q3_S Gframe_Encode Gframe_Parse Gkeep_Frames) (law10_FrameBack_Q3_B Gframe_Encode Gframe_Parse Gkeep_Frames) opts 40, fuel := 1152921504606846976, blk := fun i => aget [] i, bor := opts.bor }
def law10_FrameBack_Q3_lo : Vx → List Nat := fun | .normal => [1, 2, 3] | .exit j => (fun _ => []) j | .ret => [6]
def law10_FrameBack_Q3_x0 (r0 : Bool) (r1 : Nat) (r2 : Nat → Nat → PV) (r3 : Int) (r4 : Int) (r5 : Int) (r6 : Bool) (r7 : Int) (r8 : Int) (r9 : Int) (r10 : Bool) (r11 : Nat) (r12 : Nat → Nat → PV) : St := { n := 110, m := 0, t := [(1, .v (.c (.pv (.sl r0 (.int .u8 .nil) 1 r1 (r2))))), (2, .v (.c (.pv (.val (.int .u16 r3))))), (3, .v (.c (.ptr 0 0)))], h := [(0, .cells false [.pv (.val (.int .u64 r4)), .pv (.val (.int .u64 r5)), .pv (.val (.bool r6)), .pv (.val (.int .i64 r7)), .pv (.val (.int .i64 r8)), .pv (.val (.int .i64 r9)), .pv (.sl r10 (.int .u8 .nil) 1 r11 (r12))])], nx := 1 }
def law10_FrameBack_Q3_x1  : St := { n := 110, m := 0, t := [(6, .v (.c (.pv (.val (.bool false)))))], h := [], nx := 0 }
def law10_FrameBack_Q3_T {α : Type} (Gframe_Encode : Int → Int → Bool → Int → Int → Int → Bool → Nat → (Nat → Nat → PV) → ((Nat → Nat → PV) → Option α) → (Bool → Nat → (Nat → Nat → PV) → Option α) → Option α) (Gframe_Parse : Bool → Nat → (Nat → Nat → PV) → (Int → Int → Bool → Int → Int → Int → Int → Bool → Nat → (Nat → Nat → PV) → Option α) → Option α) (Gkeep_Frames : Int → Int → Bool → Int → Int → Int → Bool → Nat → (Nat → Nat → PV) → Int → Int → Bool → Int → Int → Int → Bool → Nat → (Nat → Nat → PV) → (Bool → Option α) → Option α) (a_1 : Bool) (a_2 : Nat) (a_3 : Nat → Nat → PV) (a_4 : Int) (a_5 : Int) (a_6 : Int) (a_7 : Bool) (a_8 : Int) (a_9 : Int) (a_10 : Int) (a_11 : Bool) (a_12 : Nat) (a_13 : Nat → Nat → PV) (k0 : Bool → Nat → (Nat → Nat → PV) → Int → Int → Int → Bool → Int → Int → Int → Bool → Nat → (Nat → Nat → PV) → Option α) (k1 : Option α) : Option α := Gframe_Encode a_5 a_6 a_7 a_8 a_9 a_10 a_11 a_12 a_13
  (fun r_14 => k0 a_1 a_2 a_3 a_4 a_5 a_6 a_7 a_8 a_9 a_10 a_11 a_12 a_13)
  (fun r_14 r_15 r_16 => Gframe_Parse r_14 r_15 r_16
   (fun r_17 r_18 r_19 r_20 r_21 r_22 r_23 r_24 r_25 r_26 => bif (r_23 != 0) then
    k1
   else Gkeep_Frames r_17 r_18 r_19 r_20 r_21 r_22 r_24 r_25 r_26 a_5 a_6 a_7 a_8 a_9 a_10 a_11 a_12 a_13
    (fun r_27 => bif !r_27 then
     k1
    else k0 a_1 a_2 a_3 a_4 a_5 a_6 a_7 a_8 a_9 a_10 a_11 a_12 a_13)))
def law10_FrameBack_Q3 {α : Type} (a_1 : Bool) (a_2 : Nat) (a_3 : Nat → Nat → PV) (a_4 : Int) (a_5 : Int) (a_6 : Int) (a_7 : Bool) (a_8 : Int) (a_9 : Int) (a_10 : Int) (a_11 : Bool) (a_12 : Nat) (a_13 : Nat → Nat → PV) (k0 : Bool → Nat → (Nat → Nat → PV) → Int → Int → Int → Bool → Int → Int → Int → Bool → Nat → (Nat → Nat → PV) → Option α) (k1 : Option α) : Option α := law10_FrameBack_Q3_T frame_Encode frame_Parse keep_Frames a_1 a_2 a_3 a_4 a_5 a_6 a_7 a_8 a_9 a_10 a_11 a_12 a_13 k0 k1
def law10_FrameBack_Q3_e (a_1 : Bool) (a_2 : Nat) (a_3 : Nat → Nat → PV) (a_4 : Int) (a_5 : Int) (a_6 : Int) (a_7 : Bool) (a_8 : Int) (a_9 : Int) (a_10 : Int) (a_11 : Bool) (a_12 : Nat) (a_13 : Nat → Nat → PV) : St := { n := 110, m := 0, t := [(1, .v (.c (.pv (.sl a_1 (.int .u8 .nil) 1 a_2 (a_3))))), (2, .v (.c (.pv (.val (.int .u16 a_4))))), (3, .v (.c (.ptr 0 0)))], h := [(0, .cells false [.pv (.val (.int .u64 a_5)), .pv (.val (.int .u64 a_6)), .pv (.val (.bool a_7)), .pv (.val (.int .i64 a_8)), .pv (.val (.int .i64 a_9)), .pv (.val (.int .i64 a_10)), .pv (.sl a_11 (.int .u8 .nil) 1 a_12 (a_13))])], nx := 1 }
theorem law10_FrameBack_Q3_eq (Gframe_Encode : Int → Int → Bool → Int → Int → Int → Bool → Nat → (Nat → Nat → PV) → ((Nat → Nat → PV) → Option Out) → (Bool → Nat → (Nat → Nat → PV) → Option Out) → Option Out) (Gframe_Parse : Bool → Nat → (Nat → Nat → PV) → (Int → Int → Bool → Int → Int → Int → Int → Bool → Nat → (Nat → Nat → PV) → Option Out) → Option Out) (Gkeep_Frames : Int → Int → Bool → Int → Int → Int → Bool → Nat → (Nat → Nat → PV) → Int → Int → Bool → Int → Int → Int → Bool → Nat → (Nat → Nat → PV) → (Bool → Option Out) → Option Out) (a_1 : Bool) (a_2 : Nat) (a_3 : Nat → Nat → PV) (a_4 : Int) (a_5 : Int) (a_6 : Int) (a_7 : Bool) (a_8 : Int) (a_9 : Int) (a_10 : Int) (a_11 : Bool) (a_12 : Nat) (a_13 : Nat → Nat → PV) (k : Kont) : exec (law10_FrameBack_Q3_C Gframe_Encode Gframe_Parse Gkeep_Frames) (codeAt Try.f7 1000003) (law10_FrameBack_Q3_e a_1 a_2 a_3 a_4 a_5 a_6 a_7 a_8 a_9 a_10 a_11 a_12 a_13) (kn law10_FrameBack_Q3_lo k) = law10_FrameBack_Q3_T Gframe_Encode Gframe_Parse Gkeep_Frames a_1 a_2 a_3 a_4 a_5 a_6 a_7 a_8 a_9 a_10 a_11 a_12 a_13 (fun r0 r1 r2 r3 r4 r5 r6 r7 r8 r9 r10 r11 r12 => k .normal (law10_FrameBack_Q3_x0 r0 r1 r2 r3 r4 r5 r6 r7 r8 r9 r10 r11 r12)) (k .ret (law10_FrameBack_Q3_x1)) := by kernel_rfl
def law10_FrameBack_Q3_p : PSt := { n := 110, m := 0, t := [(1, .v (.c (.pv (.sl .h (.int .u8 .nil) 1 .h)))), (2, .v (.c (.pv (.int .u16 .h)))), (3, .v (.c (.ptr 0 0)))], h := [(0, .cells (.l false) [.pv (.int .u64 .h), .pv (.int .u64 .h), .pv (.bool .h), .pv (.int .i64 .h), .pv (.int .i64 .h), .pv (.int .i64 .h), .pv (.sl .h (.int .u8 .nil) 1 .h)])], nx := 1 }
def law10_FrameBack_Q3_F (h : List Hole) (k : Kont) : Option Out := law10_FrameBack_Q3 (gB h 0) (gN h 1) (gF h 2) (gI h 3) (gI h 4) (gI h 5) (gB h 6) (gI h 7) (gI h 8) (gI h 9) (gB h 10) (gN h 11) (gF h 12) (fun r0 r1 r2 r3 r4 r5 r6 r7 r8 r9 r10 r11 r12 => k .normal (law10_FrameBack_Q3_x0 r0 r1 r2 r3 r4 r5 r6 r7 r8 r9 r10 r11 r12)) (k .ret (law10_FrameBack_Q3_x1))
theorem law10_FrameBack_Q3_at (h : List Hole) : BodyAt Try.prog (codeAt Try.f7 1000003) (stFill law10_FrameBack_Q3_p h) (law10_FrameBack_Q3_F h) := by
  have e : stFill law10_FrameBack_Q3_p h = law10_FrameBack_Q3_e (gB h 0) (gN h 1) (gF h 2) (gI h 3) (gI h 4) (gI h 5) (gB h 6) (gI h 7) (gI h 8) (gI h 9) (gB h 10) (gN h 11) (gF h 12) := by kernel_rfl
  rw [e]; exact bodyAt_of (C := law10_FrameBack_Q3_C frame_Encode frame_Parse keep_Frames) ⟨ttOk, eqOk, runS_ok ttOk eqOk mixed (names_ok namesOk) (S := law10_FrameBack_Q3_S frame_Encode frame_Parse keep_Frames) (sums_cons yes25_ok (sums_cons (smOf_ok (alts_cons frame_Encode_at alts_nil)) (sums_cons (smOf_ok (alts_cons frame_Parse_at alts_nil)) (sums_cons (smOf_ok (alts_cons keep_Frames_at alts_nil)) (sums_nil))))) (B := law10_FrameBack_Q3_B frame_Encode frame_Parse keep_Frames) (hooks_nil) opts 40⟩ mixed (hooked_in (by kernel_rfl) blk_nil 1000003) fun k => law10_FrameBack_Q3_eq frame_Encode frame_Parse keep_Frames _ _ _ _ _ _ _ _ _ _ _ _ _ k
/- weirgate/weirgatelaw10.FrameBack: from region 8 on -/
def law10_FrameBack_Q8_S (Gframe_Parse : Bool → Nat → (Nat → Nat → PV) → (Int → Int → Bool → Int → Int → Int → Int → Bool → Nat → (Nat → Nat → PV) → Option Out) → Option Out) (Gframe_Encode : Int → Int → Bool → Int → Int → Int → Bool → Nat → (Nat → Nat → PV) → ((Nat → Nat → PV) → Option Out) → (Bool → Nat → (Nat → Nat → PV) → Option Out) → Option Out) : List (Nat × Sm) := [(25, yes), (29, smOf [(frame_Parse_p, fun h k => Gframe_Parse (gB h 0) (gN h 1) (gF h 2) (fun r0 r1 r2 r3 r4 r5 r6 r7 r8 r9 => k (.tup [.agg [.pv (.val (.int .u64 r0)), .pv (.val (.int .u64 r1)), .pv (.val (.bool r2)), .pv (.val (.int .i64 r3)), .pv (.val (.int .i64 r4)), .pv (.val (.int .i64 r5)), .own 0], .c (.pv (.val (.int .i64 r6)))]) [.parr false r7 (.int .u8 .nil) 1 r8 (r9)]))]), (26, smOf [(frame_Encode_p, fun h k => Gframe_Encode (gI h 0) (gI h 1) (gB h 2) (gI h 3) (gI h 4) (gI h 5) (gB h 6) (gN h 7) (gF h 8) (fun r0 => k (.tup [.c (.own 0), .c (.pv (.val (.int .i64 11)))]) [.parr false true (.int .u8 .nil) 1 0 (r0)]) (fun r0 r1 r2 => k (.tup [.c (.own 0), .c (.pv (.val (.int .i64 0)))]) [.parr false r0 (.int .u8 .nil) 1 r1 (r2)]))])]
def law10_FrameBack_Q8_B (Gframe_Parse : Bool → Nat → (Nat → Nat → PV) → (Int → Int → Bool → Int → Int → Int → Int → Bool → Nat → (Nat → Nat → PV) → Option Out) → Option Out) (Gframe_Encode : Int → Int → Bool → Int → Int → Int → Bool → Nat → (Nat → Nat → PV) → ((Nat → Nat → PV) → Option Out) → (Bool → Nat → (Nat → Nat → PV) → Option Out) → Option Out) : Hooks := []
noncomputable def law10_FrameBack_Q8_C (Gframe_Parse : Bool → Nat → (Nat → Nat → PV) → (Int → Int → Bool → Int → Int → Int → Int → Bool → Nat → (Nat → Nat → PV) → Option Out) → Option Out) (Gframe_Encode : Int → Int → Bool → Int → Int → Int → Bool → Nat → (Nat → Nat → PV) → ((Nat → Nat → PV) → Option Out) → (Bool → Nat → (Nat → Nat → PV) → Option Out) → Option Out) : Ctx := { tt := tt, eqs := has eql, call := runS tt (has eql) Try.prog.funcs 1152921504606846976 (law10_FrameBack_Q8_S Gframe_Parse Gframe_Encode) (law10_FrameBack_Q8_B Gframe_Parse Gframe_Encode) opts 40, fuel := 1152921504606846976, blk := fun i => aget [] i, bor := opts.bor }
def law10_FrameBack_Q8_lo : Vx → List Nat := fun | .normal => [2, 3] | .exit j => (fun _ => []) j | .ret => [6]
def law10_FrameBack_Q8_x0  : St := { n := 110, m := 0, t := [(6, .v (.c (.pv (.val (.bool false)))))], h := [], nx := 0 }
def law10_FrameBack_Q8_x1 (r0 : Int) (r1 : Int) (r2 : Int) (r3 : Bool) (r4 : Int) (r5 : Int) (r6 : Int) (r7 : Bool) (r8 : Nat) (r9 : Nat → Nat → PV) : St := { n := 110, m := 0, t := [(2, .v (.c (.pv (.val (.int .u16 r0))))), (3, .v (.c (.ptr 0 0)))], h := [(0, .cells false [.pv (.val (.int .u64 r1)), .pv (.val (.int .u64 r2)), .pv (.val (.bool r3)), .pv (.val (.int .i64 r4)), .pv (.val (.int .i64 r5)), .pv (.val (.int .i64 r6)), .pv (.sl r7 (.int .u8 .nil) 1 r8 (r9))])], nx := 1 }
def law10_FrameBack_Q8_T {α : Type} (Gframe_Parse : Bool → Nat → (Nat → Nat → PV) → (Int → Int → Bool → Int → Int → Int → Int → Bool → Nat → (Nat → Nat → PV) → Option α) → Option α) (Gframe_Encode : Int → Int → Bool → Int → Int → Int → Bool → Nat → (Nat → Nat → PV) → ((Nat → Nat → PV) → Option α) → (Bool → Nat → (Nat → Nat → PV) → Option α) → Option α) (a_1 : Bool) (a_2 : Nat) (a_3 : Nat → Nat → PV) (a_4 : Int) (a_5 : Int) (a_6 : Int) (a_7 : Bool) (a_8 : Int) (a_9 : Int) (a_10 : Int) (a_11 : Bool) (a_12 : Nat) (a_13 : Nat → Nat → PV) (k0 : Option α) (k1 : Int → Int → Int → Bool → Int → Int → Int → Bool → Nat → (Nat → Nat → PV) → Option α) : Option α := Gframe_Parse a_1 a_2 a_3
  (fun r_14 r_15 r_16 r_17 r_18 r_19 r_20 r_21 r_22 r_23 => bif (r_20 == 0) then
   Gframe_Encode r_14 r_15 r_16 r_17 r_18 r_19 r_21 r_22 r_23
    (fun r_24 => k0)
    (fun r_24 r_25 r_26 => bif !((strOf r_25 (r_26)).toList == (strOf a_2 (a_3)).toList) then
     k0
    else k1 a_4 a_5 a_6 a_7 a_8 a_9 a_10 a_11 a_12 a_13)
  else k1 a_4 a_5 a_6 a_7 a_8 a_9 a_10 a_11 a_12 a_13)
def law10_FrameBack_Q8 {α : Type} (a_1 : Bool) (a_2 : Nat) (a_3 : Nat → Nat → PV) (a_4 : Int) (a_5 : Int) (a_6 : Int) (a_7 : Bool) (a_8 : Int) (a_9 : Int) (a_10 : Int) (a_11 : Bool) (a_12 : Nat) (a_13 : Nat → Nat → PV) (k0 : Option α) (k1 : Int → Int → Int → Bool → Int → Int → Int → Bool → Nat → (Nat → Nat → PV) → Option α) : Option α := law10_FrameBack_Q8_T frame_Parse frame_Encode a_1 a_2 a_3 a_4 a_5 a_6 a_7 a_8 a_9 a_10 a_11 a_12 a_13 k0 k1
def law10_FrameBack_Q8_e (a_1 : Bool) (a_2 : Nat) (a_3 : Nat → Nat → PV) (a_4 : Int) (a_5 : Int) (a_6 : Int) (a_7 : Bool) (a_8 : Int) (a_9 : Int) (a_10 : Int) (a_11 : Bool) (a_12 : Nat) (a_13 : Nat → Nat → PV) : St := { n := 110, m := 0, t := [(1, .v (.c (.pv (.sl a_1 (.int .u8 .nil) 1 a_2 (a_3))))), (2, .v (.c (.pv (.val (.int .u16 a_4))))), (3, .v (.c (.ptr 0 0)))], h := [(0, .cells false [.pv (.val (.int .u64 a_5)), .pv (.val (.int .u64 a_6)), .pv (.val (.bool a_7)), .pv (.val (.int .i64 a_8)), .pv (.val (.int .i64 a_9)), .pv (.val (.int .i64 a_10)), .pv (.sl a_11 (.int .u8 .nil) 1 a_12 (a_13))])], nx := 1 }
theorem law10_FrameBack_Q8_eq (Gframe_Parse : Bool → Nat → (Nat → Nat → PV) → (Int → Int → Bool → Int → Int → Int → Int → Bool → Nat → (Nat → Nat → PV) → Option Out) → Option Out) (Gframe_Encode : Int → Int → Bool → Int → Int → Int → Bool → Nat → (Nat → Nat → PV) → ((Nat → Nat → PV) → Option Out) → (Bool → Nat → (Nat → Nat → PV) → Option Out) → Option Out) (a_1 : Bool) (a_2 : Nat) (a_3 : Nat → Nat → PV) (a_4 : Int) (a_5 : Int) (a_6 : Int) (a_7 : Bool) (a_8 : Int) (a_9 : Int) (a_10 : Int) (a_11 : Bool) (a_12 : Nat) (a_13 : Nat → Nat → PV) (k : Kont) : exec (law10_FrameBack_Q8_C Gframe_Parse Gframe_Encode) (codeAt Try.f7 1000008) (law10_FrameBack_Q8_e a_1 a_2 a_3 a_4 a_5 a_6 a_7 a_8 a_9 a_10 a_11 a_12 a_13) (kn law10_FrameBack_Q8_lo k) = law10_FrameBack_Q8_T Gframe_Parse Gframe_Encode a_1 a_2 a_3 a_4 a_5 a_6 a_7 a_8 a_9 a_10 a_11 a_12 a_13 (k .ret (law10_FrameBack_Q8_x0)) (fun r0 r1 r2 r3 r4 r5 r6 r7 r8 r9 => k .normal (law10_FrameBack_Q8_x1 r0 r1 r2 r3 r4 r5 r6 r7 r8 r9)) := by kernel_rfl
def law10_FrameBack_Q8_p : PSt := { n := 110, m := 0, t := [(1, .v (.c (.pv (.sl .h (.int .u8 .nil) 1 .h)))), (2, .v (.c (.pv (.int .u16 .h)))), (3, .v (.c (.ptr 0 0)))], h := [(0, .cells (.l false) [.pv (.int .u64 .h), .pv (.int .u64 .h), .pv (.bool .h), .pv (.int .i64 .h), .pv (.int .i64 .h), .pv (.int .i64 .h), .pv (.sl .h (.int .u8 .nil) 1 .h)])], nx := 1 }
def law10_FrameBack_Q8_F (h : List Hole) (k : Kont) : Option Out := law10_FrameBack_Q8 (gB h 0) (gN h 1) (gF h 2) (gI h 3) (gI h 4) (gI h 5) (gB h 6) (gI h 7) (gI h 8) (gI h 9) (gB h 10) (gN h 11) (gF h 12) (k .ret (law10_FrameBack_Q8_x0)) (fun r0 r1 r2 r3 r4 r5 r6 r7 r8 r9 => k .normal (law10_FrameBack_Q8_x1 r0 r1 r2 r3 r4 r5 r6 r7 r8 r9))
theorem law10_FrameBack_Q8_at (h : List Hole) : BodyAt Try.prog (codeAt Try.f7 1000008) (stFill law10_FrameBack_Q8_p h) (law10_FrameBack_Q8_F h) := by
  have e : stFill law10_FrameBack_Q8_p h = law10_FrameBack_Q8_e (gB h 0) (gN h 1) (gF h 2) (gI h 3) (gI h 4) (gI h 5) (gB h 6) (gI h 7) (gI h 8) (gI h 9) (gB h 10) (gN h 11) (gF h 12) := by kernel_rfl
  rw [e]; exact bodyAt_of (C := law10_FrameBack_Q8_C frame_Parse frame_Encode) ⟨ttOk, eqOk, runS_ok ttOk eqOk mixed (names_ok namesOk) (S := law10_FrameBack_Q8_S frame_Parse frame_Encode) (sums_cons yes25_ok (sums_cons (smOf_ok (alts_cons frame_Parse_at alts_nil)) (sums_cons (smOf_ok (alts_cons frame_Encode_at alts_nil)) (sums_nil)))) (B := law10_FrameBack_Q8_B frame_Parse frame_Encode) (hooks_nil) opts 40⟩ mixed (hooked_in (by kernel_rfl) blk_nil 1000008) fun k => law10_FrameBack_Q8_eq frame_Parse frame_Encode _ _ _ _ _ _ _ _ _ _ _ _ _ k
/- weirgate/frame.Tagged -/
def frame_Tagged_T {α : Type} (Gslices_Clone_byte_byte : Bool → Nat → (Nat → Nat → PV) → (Bool → Nat → (Nat → Nat → PV) → Option α) → Option α) (a_1 : Int) (a_2 : Int) (a_3 : Bool) (a_4 : Int) (a_5 : Int) (a_6 : Int) (a_7 : Bool) (a_8 : Nat) (a_9 : Nat → Nat → PV) (a_10 : Int) (k0 : (Nat → Nat → PV) → Option α) (k1 : Int → Int → Int → Int → Bool → Nat → (Nat → Nat → PV) → Option α) (k2 : Int → Int → Int → Int → Int → Bool → Nat → (Nat → Nat → PV) → Option α) : Option α := bif decide (a_10 < 1) then
  k0 (fun _ _ => .val undef)
 else bif decide (a_10 ≥ 4095) then
  k0 (fun _ _ => .val undef)
 else bif !a_3 then
  Gslices_Clone_byte_byte a_7 a_8 a_9
   (fun r_11 r_12 r_13 => k1 a_1 a_2 a_10 a_6 r_11 r_12 r_13)
 else Gslices_Clone_byte_byte a_7 a_8 a_9
  (fun r_11 r_12 r_13 => k2 a_1 a_2 a_4 a_10 a_6 r_11 r_12 r_13)
def frame_Tagged {α : Type} (a_1 : Int) (a_2 : Int) (a_3 : Bool) (a_4 : Int) (a_5 : Int) (a_6 : Int) (a_7 : Bool) (a_8 : Nat) (a_9 : Nat → Nat → PV) (a_10 : Int) (k0 : (Nat → Nat → PV) → Option α) (k1 : Int → Int → Int → Int → Bool → Nat → (Nat → Nat → PV) → Option α) (k2 : Int → Int → Int → Int → Int → Bool → Nat → (Nat → Nat → PV) → Option α) : Option α := frame_Tagged_T slices_Clone_byte_byte a_1 a_2 a_3 a_4 a_5 a_6 a_7 a_8 a_9 a_10 k0 k1 k2
def frame_Tagged_S (Gslices_Clone_byte_byte : Bool → Nat → (Nat → Nat → PV) → (Bool → Nat → (Nat → Nat → PV) → Option Out) → Option Out) : List (Nat × Sm) := [(25, yes), (74, smOf [(slices_Clone_byte_byte_p, fun h k => Gslices_Clone_byte_byte (gB h 0) (gN h 1) (gF h 2) (fun r0 r1 r2 => k (.v (.c (.own 0))) [.parr false r0 (.int .u8 .nil) 1 r1 (r2)]))])]
def frame_Tagged_B (Gslices_Clone_byte_byte : Bool → Nat → (Nat → Nat → PV) → (Bool → Nat → (Nat → Nat → PV) → Option Out) → Option Out) : Hooks := []
theorem frame_Tagged_eq (Gslices_Clone_byte_byte : Bool → Nat → (Nat → Nat → PV) → (Bool → Nat → (Nat → Nat → PV) → Option Out) → Option Out) (a_1 : Int) (a_2 : Int) (a_3 : Bool) (a_4 : Int) (a_5 : Int) (a_6 : Int) (a_7 : Bool) (a_8 : Nat) (a_9 : Nat → Nat → PV) (a_10 : Int) (k : FK) : runS tt (has eql) Try.prog.funcs 1152921504606846976 (frame_Tagged_S Gslices_Clone_byte_byte) (frame_Tagged_B Gslices_Clone_byte_byte) opts 40 34 [.v (.agg [.pv (.val (.int .u64 a_1)), .pv (.val (.int .u64 a_2)), .pv (.val (.bool a_3)), .pv (.val (.int .i64 a_4)), .pv (.val (.int .i64 a_5)), .pv (.val (.int .i64 a_6)), .pv (.sl a_7 (.int .u8 .nil) 1 a_8 (a_9))]), .v (.c (.pv (.val (.int .i64 a_10))))] [] k = frame_Tagged_T Gslices_Clone_byte_byte a_1 a_2 a_3 a_4 a_5 a_6 a_7 a_8 a_9 a_10 (fun r0 => k (.tup [.agg [.pv (.val (.int .u64 0)), .pv (.val (.int .u64 0)), .pv (.val (.bool false)), .pv (.val (.int .i64 0)), .pv (.val (.int .i64 0)), .pv (.val (.int .i64 0)), .own 0], .c (.pv (.val (.int .i64 1)))]) [.parr false true (.int .u8 .nil) 1 0 (r0)]) (fun r0 r1 r2 r3 r4 r5 r6 => k (.tup [.agg [.pv (.val (.int .u64 r0)), .pv (.val (.int .u64 r1)), .pv (.val (.bool true)), .pv (.val (.int .i64 0)), .pv (.val (.int .i64 r2)), .pv (.val (.int .i64 r3)), .own 0], .c (.pv (.val (.int .i64 0)))]) [.parr false r4 (.int .u8 .nil) 1 r5 (r6)]) (fun r0 r1 r2 r3 r4 r5 r6 r7 => k (.tup [.agg [.pv (.val (.int .u64 r0)), .pv (.val (.int .u64 r1)), .pv (.val (.bool true)), .pv (.val (.int .i64 r2)), .pv (.val (.int .i64 r3)), .pv (.val (.int .i64 r4)), .own 0], .c (.pv (.val (.int .i64 0)))]) [.parr false r5 (.int .u8 .nil) 1 r6 (r7)]) := by kernel_rfl
def frame_Tagged_p : PAr := ⟨[.v (.agg [.pv (.int .u64 .h), .pv (.int .u64 .h), .pv (.bool .h), .pv (.int .i64 .h), .pv (.int .i64 .h), .pv (.int .i64 .h), .pv (.sl .h (.int .u8 .nil) 1 .h)]), .v (.c (.pv (.int .i64 .h)))], []⟩
def frame_Tagged_F (h : List Hole) (k : FK) : Option Out := frame_Tagged (gI h 0) (gI h 1) (gB h 2) (gI h 3) (gI h 4) (gI h 5) (gB h 6) (gN h 7) (gF h 8) (gI h 9) (fun r0 => k (.tup [.agg [.pv (.val (.int .u64 0)), .pv (.val (.int .u64 0)), .pv (.val (.bool false)), .pv (.val (.int .i64 0)), .pv (.val (.int .i64 0)), .pv (.val (.int .i64 0)), .own 0], .c (.pv (.val (.int .i64 1)))]) [.parr false true (.int .u8 .nil) 1 0 (r0)]) (fun r0 r1 r2 r3 r4 r5 r6 => k (.tup [.agg [.pv (.val (.int .u64 r0)), .pv (.val (.int .u64 r1)), .pv (.val (.bool true)), .pv (.val (.int .i64 0)), .pv (.val (.int .i64 r2)), .pv (.val (.int .i64 r3)), .own 0], .c (.pv (.val (.int .i64 0)))]) [.parr false r4 (.int .u8 .nil) 1 r5 (r6)]) (fun r0 r1 r2 r3 r4 r5 r6 r7 => k (.tup [.agg [.pv (.val (.int .u64 r0)), .pv (.val (.int .u64 r1)), .pv (.val (.bool true)), .pv (.val (.int .i64 r2)), .pv (.val (.int .i64 r3)), .pv (.val (.int .i64 r4)), .own 0], .c (.pv (.val (.int .i64 0)))]) [.parr false r5 (.int .u8 .nil) 1 r6 (r7)])
theorem frame_Tagged_at (h : List Hole) : CallAt Try.prog 34 (arFill frame_Tagged_p h).1 (arFill frame_Tagged_p h).2 (frame_Tagged_F h) := by
  have e : arFill frame_Tagged_p h = ([.v (.agg [.pv (.val (.int .u64 (gI h 0))), .pv (.val (.int .u64 (gI h 1))), .pv (.val (.bool (gB h 2))), .pv (.val (.int .i64 (gI h 3))), .pv (.val (.int .i64 (gI h 4))), .pv (.val (.int .i64 (gI h 5))), .pv (.sl (gB h 6) (.int .u8 .nil) 1 (gN h 7) ((gF h 8)))]), .v (.c (.pv (.val (.int .i64 (gI h 9)))))], []) := by kernel_rfl
  rw [e]; exact callAt_of (runS_ok ttOk eqOk mixed (names_ok namesOk) (S := frame_Tagged_S slices_Clone_byte_byte) (sums_cons yes25_ok (sums_cons (smOf_ok (alts_cons slices_Clone_byte_byte_at alts_nil)) (sums_nil))) (B := frame_Tagged_B slices_Clone_byte_byte) (hooks_nil) opts 40) fun k => frame_Tagged_eq slices_Clone_byte_byte _ _ _ _ _ _ _ _ _ _ k
/- weirgate/weirgatelaw10.FrameBack -/
def law10_FrameBack_T {α : Type} (Glaw10_FrameBack_Q3 : Bool → Nat → (Nat → Nat → PV) → Int → Int → Int → Bool → Int → Int → Int → Bool → Nat → (Nat → Nat → PV) → (Bool → Nat → (Nat → Nat → PV) → Int → Int → Int → Bool → Int → Int → Int → Bool → Nat → (Nat → Nat → PV) → Option α) → (Option α) → Option α) (Glaw10_FrameBack_Q8 : Bool → Nat → (Nat → Nat → PV) → Int → Int → Int → Bool → Int → Int → Int → Bool → Nat → (Nat → Nat → PV) → (Option α) → (Int → Int → Int → Bool → Int → Int → Int → Bool → Nat → (Nat → Nat → PV) → Option α) → Option α) (Gframe_Tagged : Int → Int → Bool → Int → Int → Int → Bool → Nat → (Nat → Nat → PV) → Int → ((Nat → Nat → PV) → Option α) → (Int → Int → Int → Int → Bool → Nat → (Nat → Nat → PV) → Option α) → (Int → Int → Int → Int → Int → Bool → Nat → (Nat → Nat → PV) → Option α) → Option α) (Gslices_Clone_byte_byte : Bool → Nat → (Nat → Nat → PV) → (Bool → Nat → (Nat → Nat → PV) → Option α) → Option α) (Gkeep_Frames : Int → Int → Bool → Int → Int → Int → Bool → Nat → (Nat → Nat → PV) → Int → Int → Bool → Int → Int → Int → Bool → Nat → (Nat → Nat → PV) → (Bool → Option α) → Option α) (Gframe_Good : Int → Int → Bool → Int → Int → Int → Bool → Nat → (Nat → Nat → PV) → (Bool → Option α) → Option α) (a_1 : Int) (a_2 : Int) (a_3 : Bool) (a_4 : Int) (a_5 : Int) (a_6 : Int) (a_7 : Bool) (a_8 : Nat) (a_9 : Nat → Nat → PV) (a_10 : Bool) (a_11 : Nat) (a_12 : Nat → Nat → PV) (a_13 : Int) (k0 : Option α) (k1 : Option α) : Option α := bif decide ((a_8 : Int) > 2000) then
  k0
 else bif decide ((a_11 : Int) > 2000) then
  k0
 else Glaw10_FrameBack_Q3 a_10 a_11 a_12 a_13 a_1 a_2 a_3 a_4 a_5 a_6 a_7 a_8 a_9
  (fun r_14 r_15 r_16 r_17 r_18 r_19 r_20 r_21 r_22 r_23 r_24 r_25 r_26 => Glaw10_FrameBack_Q8 r_14 r_15 r_16 r_17 r_18 r_19 r_20 r_21 r_22 r_23 r_24 r_25 r_26
   (k1)
   (fun r_27 r_28 r_29 r_30 r_31 r_32 r_33 r_34 r_35 r_36 => Gframe_Tagged r_28 r_29 r_30 r_31 r_32 r_33 r_34 r_35 r_36 (IntKind.i64.wrap (1 + ((IntKind.i64.wrap r_27).tmod 4094)))
    (fun r_37 => Gslices_Clone_byte_byte r_34 r_35 r_36
     (fun r_38 r_39 r_40 => k1))
    (fun r_37 r_38 r_39 r_40 r_41 r_42 r_43 => Gslices_Clone_byte_byte r_34 r_35 r_36
     (fun r_44 r_45 r_46 => Gslices_Clone_byte_byte r_41 r_42 r_43
      (fun r_47 r_48 r_49 => Gkeep_Frames r_37 r_38 false 0 0 r_40 r_47 r_48 r_49 r_28 r_29 false 0 0 r_33 r_44 r_45 r_46
       (fun r_50 => bif !r_50 then
        k1
       else Gframe_Good r_28 r_29 r_30 r_31 r_32 r_33 r_34 r_35 r_36
        (fun r_51 => bif !r_51 then
         k0
        else bif decide ((r_35 : Int) > 1500) then
         k0
        else Gframe_Good r_37 r_38 true 0 r_39 r_40 r_41 r_42 r_43
         (fun r_52 => bif r_52 then
          Gframe_Good r_28 r_29 false 0 0 r_33 r_44 r_45 r_46
           (fun r_53 => bif r_53 then
            k0
           else k1)
         else k1))))))
    (fun r_37 r_38 r_39 r_40 r_41 r_42 r_43 r_44 => Gslices_Clone_byte_byte r_34 r_35 r_36
     (fun r_45 r_46 r_47 => Gslices_Clone_byte_byte r_42 r_43 r_44
      (fun r_48 r_49 r_50 => Gkeep_Frames r_37 r_38 false 0 0 r_41 r_48 r_49 r_50 r_28 r_29 false 0 0 r_33 r_45 r_46 r_47
       (fun r_51 => bif !r_51 then
        k1
       else Gframe_Good r_28 r_29 r_30 r_31 r_32 r_33 r_34 r_35 r_36
        (fun r_52 => bif !r_52 then
         k0
        else bif decide ((r_35 : Int) > 1500) then
         k0
        else Gframe_Good r_37 r_38 true r_39 r_40 r_41 r_42 r_43 r_44
         (fun r_53 => bif r_53 then
          Gframe_Good r_28 r_29 false 0 0 r_33 r_45 r_46 r_47
           (fun r_54 => bif r_54 then
            k0
           else k1)
         else k1))))))))
  (k1)
def law10_FrameBack {α : Type} (a_1 : Int) (a_2 : Int) (a_3 : Bool) (a_4 : Int) (a_5 : Int) (a_6 : Int) (a_7 : Bool) (a_8 : Nat) (a_9 : Nat → Nat → PV) (a_10 : Bool) (a_11 : Nat) (a_12 : Nat → Nat → PV) (a_13 : Int) (k0 : Option α) (k1 : Option α) : Option α := law10_FrameBack_T law10_FrameBack_Q3 law10_FrameBack_Q8 frame_Tagged slices_Clone_byte_byte keep_Frames frame_Good a_1 a_2 a_3 a_4 a_5 a_6 a_7 a_8 a_9 a_10 a_11 a_12 a_13 k0 k1
def law10_FrameBack_S (Glaw10_FrameBack_Q3 : Bool → Nat → (Nat → Nat → PV) → Int → Int → Int → Bool → Int → Int → Int → Bool → Nat → (Nat → Nat → PV) → (Bool → Nat → (Nat → Nat → PV) → Int → Int → Int → Bool → Int → Int → Int → Bool → Nat → (Nat → Nat → PV) → Option Out) → (Option Out) → Option Out) (Glaw10_FrameBack_Q8 : Bool → Nat → (Nat → Nat → PV) → Int → Int → Int → Bool → Int → Int → Int → Bool → Nat → (Nat → Nat → PV) → (Option Out) → (Int → Int → Int → Bool → Int → Int → Int → Bool → Nat → (Nat → Nat → PV) → Option Out) → Option Out) (Gframe_Tagged : Int → Int → Bool → Int → Int → Int → Bool → Nat → (Nat → Nat → PV) → Int → ((Nat → Nat → PV) → Option Out) → (Int → Int → Int → Int → Bool → Nat → (Nat → Nat → PV) → Option Out) → (Int → Int → Int → Int → Int → Bool → Nat → (Nat → Nat → PV) → Option Out) → Option Out) (Gslices_Clone_byte_byte : Bool → Nat → (Nat → Nat → PV) → (Bool → Nat → (Nat → Nat → PV) → Option Out) → Option Out) (Gkeep_Frames : Int → Int → Bool → Int → Int → Int → Bool → Nat → (Nat → Nat → PV) → Int → Int → Bool → Int → Int → Int → Bool → Nat → (Nat → Nat → PV) → (Bool → Option Out) → Option Out) (Gframe_Good : Int → Int → Bool → Int → Int → Int → Bool → Nat → (Nat → Nat → PV) → (Bool → Option Out) → Option Out) : List (Nat × Sm) := [(25, yes), (34, smOf [(frame_Tagged_p, fun h k => Gframe_Tagged (gI h 0) (gI h 1) (gB h 2) (gI h 3) (gI h 4) (gI h 5) (gB h 6) (gN h 7) (gF h 8) (gI h 9) (fun r0 => k (.tup [.agg [.pv (.val (.int .u64 0)), .pv (.val (.int .u64 0)), .pv (.val (.bool false)), .pv (.val (.int .i64 0)), .pv (.val (.int .i64 0)), .pv (.val (.int .i64 0)), .own 0], .c (.pv (.val (.int .i64 1)))]) [.parr false true (.int .u8 .nil) 1 0 (r0)]) (fun r0 r1 r2 r3 r4 r5 r6 => k (.tup [.agg [.pv (.val (.int .u64 r0)), .pv (.val (.int .u64 r1)), .pv (.val (.bool true)), .pv (.val (.int .i64 0)), .pv (.val (.int .i64 r2)), .pv (.val (.int .i64 r3)), .own 0], .c (.pv (.val (.int .i64 0)))]) [.parr false r4 (.int .u8 .nil) 1 r5 (r6)]) (fun r0 r1 r2 r3 r4 r5 r6 r7 => k (.tup [.agg [.pv (.val (.int .u64 r0)), .pv (.val (.int .u64 r1)), .pv (.val (.bool true)), .pv (.val (.int .i64 r2)), .pv (.val (.int .i64 r3)), .pv (.val (.int .i64 r4)), .own 0], .c (.pv (.val (.int .i64 0)))]) [.parr false r5 (.int .u8 .nil) 1 r6 (r7)]))]), (74, smOf [(slices_Clone_byte_byte_p, fun h k => Gslices_Clone_byte_byte (gB h 0) (gN h 1) (gF h 2) (fun r0 r1 r2 => k (.v (.c (.own 0))) [.parr false r0 (.int .u8 .nil) 1 r1 (r2)]))]), (23, smOf [(keep_Frames_p, fun h k => Gkeep_Frames (gI h 0) (gI h 1) (gB h 2) (gI h 3) (gI h 4) (gI h 5) (gB h 6) (gN h 7) (gF h 8) (gI h 9) (gI h 10) (gB h 11) (gI h 12) (gI h 13) (gI h 14) (gB h 15) (gN h 16) (gF h 17) (fun r0 => k (.v (.c (.pv (.val (.bool r0))))) []))]), (31, smOf [(frame_Good_p, fun h k => Gframe_Good (gI h 0) (gI h 1) (gB h 2) (gI h 3) (gI h 4) (gI h 5) (gB h 6) (gN h 7) (gF h 8) (fun r0 => k (.v (.c (.pv (.val (.bool r0))))) []))])]
def law10_FrameBack_B (Glaw10_FrameBack_Q3 : Bool → Nat → (Nat → Nat → PV) → Int → Int → Int → Bool → Int → Int → Int → Bool → Nat → (Nat → Nat → PV) → (Bool → Nat → (Nat → Nat → PV) → Int → Int → Int → Bool → Int → Int → Int → Bool → Nat → (Nat → Nat → PV) → Option Out) → (Option Out) → Option Out) (Glaw10_FrameBack_Q8 : Bool → Nat → (Nat → Nat → PV) → Int → Int → Int → Bool → Int → Int → Int → Bool → Nat → (Nat → Nat → PV) → (Option Out) → (Int → Int → Int → Bool → Int → Int → Int → Bool → Nat → (Nat → Nat → PV) → Option Out) → Option Out) (Gframe_Tagged : Int → Int → Bool → Int → Int → Int → Bool → Nat → (Nat → Nat → PV) → Int → ((Nat → Nat → PV) → Option Out) → (Int → Int → Int → Int → Bool → Nat → (Nat → Nat → PV) → Option Out) → (Int → Int → Int → Int → Int → Bool → Nat → (Nat → Nat → PV) → Option Out) → Option Out) (Gslices_Clone_byte_byte : Bool → Nat → (Nat → Nat → PV) → (Bool → Nat → (Nat → Nat → PV) → Option Out) → Option Out) (Gkeep_Frames : Int → Int → Bool → Int → Int → Int → Bool → Nat → (Nat → Nat → PV) → Int → Int → Bool → Int → Int → Int → Bool → Nat → (Nat → Nat → PV) → (Bool → Option Out) → Option Out) (Gframe_Good : Int → Int → Bool → Int → Int → Int → Bool → Nat → (Nat → Nat → PV) → (Bool → Option Out) → Option Out) : Hooks := [(7, [(1000003, hookG [1, 2, 3] [] (bkOf [(law10_FrameBack_Q3_p, fun h k => Glaw10_FrameBack_Q3 (gB h 0) (gN h 1) (gF h 2) (gI h 3) (gI h 4) (gI h 5) (gB h 6) (gI h 7) (gI h 8) (gI h 9) (gB h 10) (gN h 11) (gF h 12) (fun r0 r1 r2 r3 r4 r5 r6 r7 r8 r9 r10 r11 r12 => k .normal (law10_FrameBack_Q3_x0 r0 r1 r2 r3 r4 r5 r6 r7 r8 r9 r10 r11 r12)) (k .ret (law10_FrameBack_Q3_x1)))])), (1000008, hookG [1, 2, 3] [] (bkOf [(law10_FrameBack_Q8_p, fun h k => Glaw10_FrameBack_Q8 (gB h 0) (gN h 1) (gF h 2) (gI h 3) (gI h 4) (gI h 5) (gB h 6) (gI h 7) (gI h 8) (gI h 9) (gB h 10) (gN h 11) (gF h 12) (k .ret (law10_FrameBack_Q8_x0)) (fun r0 r1 r2 r3 r4 r5 r6 r7 r8 r9 => k .normal (law10_FrameBack_Q8_x1 r0 r1 r2 r3 r4 r5 r6 r7 r8 r9)))]))])]
theorem law10_FrameBack_eq (Glaw10_FrameBack_Q3 : Bool → Nat → (Nat → Nat → PV) → Int → Int → Int → Bool → Int → Int → Int → Bool → Nat → (Nat → Nat → PV) → (Bool → Nat → (Nat → Nat → PV) → Int → Int → Int → Bool → Int → Int → Int → Bool → Nat → (Nat → Nat → PV) → Option Out) → (Option Out) → Option Out) (Glaw10_FrameBack_Q8 : Bool → Nat → (Nat → Nat → PV) → Int → Int → Int → Bool → Int → Int → Int → Bool → Nat → (Nat → Nat → PV) → (Option Out) → (Int → Int → Int → Bool → Int → Int → Int → Bool → Nat → (Nat → Nat → PV) → Option Out) → Option Out) (Gframe_Tagged : Int → Int → Bool → Int → Int → Int → Bool → Nat → (Nat → Nat → PV) → Int → ((Nat → Nat → PV) → Option Out) → (Int → Int → Int → Int → Bool → Nat → (Nat → Nat → PV) → Option Out) → (Int → Int → Int → Int → Int → Bool → Nat → (Nat → Nat → PV) → Option Out) → Option Out) (Gslices_Clone_byte_byte : Bool → Nat → (Nat → Nat → PV) → (Bool → Nat → (Nat → Nat → PV) → Option Out) → Option Out) (Gkeep_Frames : Int → Int → Bool → Int → Int → Int → Bool → Nat → (Nat → Nat → PV) → Int → Int → Bool → Int → Int → Int → Bool → Nat → (Nat → Nat → PV) → (Bool → Option Out) → Option Out) (Gframe_Good : Int → Int → Bool → Int → Int → Int → Bool → Nat → (Nat → Nat → PV) → (Bool → Option Out) → Option Out) (a_1 : Int) (a_2 : Int) (a_3 : Bool) (a_4 : Int) (a_5 : Int) (a_6 : Int) (a_7 : Bool) (a_8 : Nat) (a_9 : Nat → Nat → PV) (a_10 : Bool) (a_11 : Nat) (a_12 : Nat → Nat → PV) (a_13 : Int) (k : FK) : runS tt (has eql) Try.prog.funcs 1152921504606846976 (law10_FrameBack_S Glaw10_FrameBack_Q3 Glaw10_FrameBack_Q8 Gframe_Tagged Gslices_Clone_byte_byte Gkeep_Frames Gframe_Good) (law10_FrameBack_B Glaw10_FrameBack_Q3 Glaw10_FrameBack_Q8 Gframe_Tagged Gslices_Clone_byte_byte Gkeep_Frames Gframe_Good) opts 40 7 [.v (.agg [.pv (.val (.int .u64 a_1)), .pv (.val (.int .u64 a_2)), .pv (.val (.bool a_3)), .pv (.val (.int .i64 a_4)), .pv (.val (.int .i64 a_5)), .pv (.val (.int .i64 a_6)), .pv (.sl a_7 (.int .u8 .nil) 1 a_8 (a_9))]), .v (.c (.pv (.sl a_10 (.int .u8 .nil) 1 a_11 (a_12)))), .v (.c (.pv (.val (.int .u16 a_13))))] [] k = law10_FrameBack_T Glaw10_FrameBack_Q3 Glaw10_FrameBack_Q8 Gframe_Tagged Gslices_Clone_byte_byte Gkeep_Frames Gframe_Good a_1 a_2 a_3 a_4 a_5 a_6 a_7 a_8 a_9 a_10 a_11 a_12 a_13 (k (.v (.c (.pv (.val (.bool true))))) []) (k (.v (.c (.pv (.val (.bool false))))) []) := by kernel_rfl
def law10_FrameBack_p : PAr := ⟨[.v (.agg [.pv (.int .u64 .h), .pv (.int .u64 .h), .pv (.bool .h), .pv (.int .i64 .h), .pv (.int .i64 .h), .pv (.int .i64 .h), .pv (.sl .h (.int .u8 .nil) 1 .h)]), .v (.c (.pv (.sl .h (.int .u8 .nil) 1 .h))), .v (.c (.pv (.int .u16 .h)))], []⟩
def law10_FrameBack_F (h : List Hole) (k : FK) : Option Out := law10_FrameBack (gI h 0) (gI h 1) (gB h 2) (gI h 3) (gI h 4) (gI h 5) (gB h 6) (gN h 7) (gF h 8) (gB h 9) (gN h 10) (gF h 11) (gI h 12) (k (.v (.c (.pv (.val (.bool true))))) []) (k (.v (.c (.pv (.val (.bool false))))) [])
theorem law10_FrameBack_at (h : List Hole) : CallAt Try.prog 7 (arFill law10_FrameBack_p h).1 (arFill law10_FrameBack_p h).2 (law10_FrameBack_F h) := by
  have e : arFill law10_FrameBack_p h = ([.v (.agg [.pv (.val (.int .u64 (gI h 0))), .pv (.val (.int .u64 (gI h 1))), .pv (.val (.bool (gB h 2))), .pv (.val (.int .i64 (gI h 3))), .pv (.val (.int .i64 (gI h 4))), .pv (.val (.int .i64 (gI h 5))), .pv (.sl (gB h 6) (.int .u8 .nil) 1 (gN h 7) ((gF h 8)))]), .v (.c (.pv (.sl (gB h 9) (.int .u8 .nil) 1 (gN h 10) ((gF h 11))))), .v (.c (.pv (.val (.int .u16 (gI h 12)))))], []) := by kernel_rfl
  rw [e]; exact callAt_of (runS_ok ttOk eqOk mixed (names_ok namesOk) (S := law10_FrameBack_S law10_FrameBack_Q3 law10_FrameBack_Q8 frame_Tagged slices_Clone_byte_byte keep_Frames frame_Good) (sums_cons yes25_ok (sums_cons (smOf_ok (alts_cons frame_Tagged_at alts_nil)) (sums_cons (smOf_ok (alts_cons slices_Clone_byte_byte_at alts_nil)) (sums_cons (smOf_ok (alts_cons keep_Frames_at alts_nil)) (sums_cons (smOf_ok (alts_cons frame_Good_at alts_nil)) (sums_nil)))))) (B := law10_FrameBack_B law10_FrameBack_Q3 law10_FrameBack_Q8 frame_Tagged slices_Clone_byte_byte keep_Frames frame_Good) (hooks_add (fn := Try.f7) (by kernel_rfl) (by kernel_rfl) (blk_cons (bkOf_ok (blts_cons law10_FrameBack_Q3_at blts_nil)) (blk_cons (bkOf_ok (blts_cons law10_FrameBack_Q8_at blts_nil)) blk_nil)) (hooks_nil)) opts 40) fun k => law10_FrameBack_eq law10_FrameBack_Q3 law10_FrameBack_Q8 frame_Tagged slices_Clone_byte_byte keep_Frames frame_Good _ _ _ _ _ _ _ _ _ _ _ _ _ k
theorem call_ok : CallSem Try.prog (runS tt (has eql) Try.prog.funcs 1152921504606846976 (law10_FrameBack_S law10_FrameBack_Q3 law10_FrameBack_Q8 frame_Tagged slices_Clone_byte_byte keep_Frames frame_Good) (law10_FrameBack_B law10_FrameBack_Q3 law10_FrameBack_Q8 frame_Tagged slices_Clone_byte_byte keep_Frames frame_Good) opts 40) := runS_ok ttOk eqOk mixed (names_ok namesOk) (S := law10_FrameBack_S law10_FrameBack_Q3 law10_FrameBack_Q8 frame_Tagged slices_Clone_byte_byte keep_Frames frame_Good) (sums_cons yes25_ok (sums_cons (smOf_ok (alts_cons frame_Tagged_at alts_nil)) (sums_cons (smOf_ok (alts_cons slices_Clone_byte_byte_at alts_nil)) (sums_cons (smOf_ok (alts_cons keep_Frames_at alts_nil)) (sums_cons (smOf_ok (alts_cons frame_Good_at alts_nil)) (sums_nil)))))) (B := law10_FrameBack_B law10_FrameBack_Q3 law10_FrameBack_Q8 frame_Tagged slices_Clone_byte_byte keep_Frames frame_Good) (hooks_add (fn := Try.f7) (by kernel_rfl) (by kernel_rfl) (blk_cons (bkOf_ok (blts_cons law10_FrameBack_Q3_at blts_nil)) (blk_cons (bkOf_ok (blts_cons law10_FrameBack_Q8_at blts_nil)) blk_nil)) (hooks_nil)) opts 40
theorem law_eq (a_1 : Int) (a_2 : Int) (a_3 : Bool) (a_4 : Int) (a_5 : Int) (a_6 : Int) (a_7 : Bool) (a_8 : Nat) (a_9 : Nat → Nat → PV) (a_10 : Bool) (a_11 : Nat) (a_12 : Nat → Nat → PV) (a_13 : Int) (k : FK) : runS tt (has eql) Try.prog.funcs 1152921504606846976 (law10_FrameBack_S law10_FrameBack_Q3 law10_FrameBack_Q8 frame_Tagged slices_Clone_byte_byte keep_Frames frame_Good) (law10_FrameBack_B law10_FrameBack_Q3 law10_FrameBack_Q8 frame_Tagged slices_Clone_byte_byte keep_Frames frame_Good) opts 40 7 [.v (.agg [.pv (.val (.int .u64 a_1)), .pv (.val (.int .u64 a_2)), .pv (.val (.bool a_3)), .pv (.val (.int .i64 a_4)), .pv (.val (.int .i64 a_5)), .pv (.val (.int .i64 a_6)), .pv (.sl a_7 (.int .u8 .nil) 1 a_8 (a_9))]), .v (.c (.pv (.sl a_10 (.int .u8 .nil) 1 a_11 (a_12)))), .v (.c (.pv (.val (.int .u16 a_13))))] [] k = law10_FrameBack a_1 a_2 a_3 a_4 a_5 a_6 a_7 a_8 a_9 a_10 a_11 a_12 a_13 (k (.v (.c (.pv (.val (.bool true))))) []) (k (.v (.c (.pv (.val (.bool false))))) []) := law10_FrameBack_eq law10_FrameBack_Q3 law10_FrameBack_Q8 frame_Tagged slices_Clone_byte_byte keep_Frames frame_Good a_1 a_2 a_3 a_4 a_5 a_6 a_7 a_8 a_9 a_10 a_11 a_12 a_13 k
end Go.Proofs.Ytampnnhdgnhjaaa.FrameBack

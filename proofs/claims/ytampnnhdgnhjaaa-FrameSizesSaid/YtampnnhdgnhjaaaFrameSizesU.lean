/- FrameSizes: the code of the law and of all that it calls, told by functions over numbers and rows. WRITTEN BY gen.py. -/
import Derived.Test.YtampnnhdgnhjaaaSeat
set_option linter.unusedVariables false
namespace Go.Proofs.Ytampnnhdgnhjaaa.FrameSizes
open Go.Ve
set_option maxRecDepth 100000
theorem wakes_eq (k : AV → List AObj → Option Out) : runS tt (has eql) Try.prog.funcs 100000 [] [] (has bor) 40 25 [] [] k = k (.b true) [] := by kernel_rfl
theorem yes25_ok : SumOk Try.prog 25 yes := SumOk.yes (runS_ok ttOk eqOk mixed (names_ok namesOk) sums_nil hooks_nil (has bor) 40) wakes_eq
/- weirgate/mac.Group -/
def mac_Group_T {α : Type}  (a_1 : Int) (k0 : Bool → Option α) : Option α := bif ((shrI .u64 a_1 48) == 0) then
  k0 ((bits .and .u64 (shrI .u64 a_1 40) 1) == 1)
 else k0 false
def mac_Group {α : Type} (a_1 : Int) (k0 : Bool → Option α) : Option α := mac_Group_T  a_1 k0
def mac_Group_S  : List (Nat × Sm) := [(25, yes)]
def mac_Group_B  : Hooks := []
theorem mac_Group_eq  (a_1 : Int) (k : FK) : runS tt (has eql) Try.prog.funcs 1152921504606846976 (mac_Group_S ) (mac_Group_B ) (has bor) 40 56 [.v (.c (.pv (.val (.int .u64 a_1))))] [] k = mac_Group_T  a_1 (fun r0 => k (.v (.c (.pv (.val (.bool r0))))) []) := by kernel_rfl
def mac_Group_p : PAr := ⟨[.v (.c (.pv (.int .u64 .h)))], []⟩
def mac_Group_F (h : List Hole) (k : FK) : Option Out := mac_Group (gI h 0) (fun r0 => k (.v (.c (.pv (.val (.bool r0))))) [])
theorem mac_Group_at (h : List Hole) : CallAt Try.prog 56 (arFill mac_Group_p h).1 (arFill mac_Group_p h).2 (mac_Group_F h) := by
  have e : arFill mac_Group_p h = ([.v (.c (.pv (.val (.int .u64 (gI h 0)))))], []) := by kernel_rfl
  rw [e]; exact callAt_of (runS_ok ttOk eqOk mixed (names_ok namesOk) (S := mac_Group_S ) (sums_cons yes25_ok (sums_nil)) (B := mac_Group_B ) (hooks_nil) (has bor) 40) fun k => mac_Group_eq  _ k
/- weirgate/frame.room -/
def frame_room_T {α : Type}  (a_1 : Bool) (k0 : Int → Option α) : Option α := bif a_1 then
  k0 1500
 else k0 1504
def frame_room {α : Type} (a_1 : Bool) (k0 : Int → Option α) : Option α := frame_room_T  a_1 k0
def frame_room_S  : List (Nat × Sm) := [(25, yes)]
def frame_room_B  : Hooks := []
theorem frame_room_eq  (a_1 : Bool) (k : FK) : runS tt (has eql) Try.prog.funcs 1152921504606846976 (frame_room_S ) (frame_room_B ) (has bor) 40 76 [.v (.c (.pv (.val (.bool a_1))))] [] k = frame_room_T  a_1 (fun r0 => k (.v (.c (.pv (.val (.int .i64 r0))))) []) := by kernel_rfl
def frame_room_p : PAr := ⟨[.v (.c (.pv (.bool .h)))], []⟩
def frame_room_F (h : List Hole) (k : FK) : Option Out := frame_room (gB h 0) (fun r0 => k (.v (.c (.pv (.val (.int .i64 r0))))) [])
theorem frame_room_at (h : List Hole) : CallAt Try.prog 76 (arFill frame_room_p h).1 (arFill frame_room_p h).2 (frame_room_F h) := by
  have e : arFill frame_room_p h = ([.v (.c (.pv (.val (.bool (gB h 0)))))], []) := by kernel_rfl
  rw [e]; exact callAt_of (runS_ok ttOk eqOk mixed (names_ok namesOk) (S := frame_room_S ) (sums_cons yes25_ok (sums_nil)) (B := frame_room_B ) (hooks_nil) (has bor) 40) fun k => frame_room_eq  _ k
/- weirgate/frame.Good -/
def frame_Good_T {α : Type} (Gmac_Group : Int → (Bool → Option α) → Option α) (Gframe_room : Bool → (Int → Option α) → Option α) (a_1 : Int) (a_2 : Int) (a_3 : Bool) (a_4 : Int) (a_5 : Int) (a_6 : Int) (a_7 : Bool) (a_8 : Nat) (a_9 : Nat → Nat → PV) (k0 : Bool → Option α) : Option α := bif !((shrI .u64 a_1 48) == 0) then
  k0 false
 else bif !((shrI .u64 a_2 48) == 0) then
  k0 false
 else Gmac_Group a_2
  (fun r_10 => bif r_10 then
   k0 false
  else bif decide (a_6 < 0) then
   k0 false
  else bif decide (a_6 ≥ 65536) then
   k0 false
  else bif (a_6 == 33024) then
   k0 false
  else Gframe_room a_3
   (fun r_11 => bif decide ((a_8 : Int) > r_11) then
    k0 false
   else bif !a_3 then
    bif (a_4 == 0) then
     k0 (a_5 == 0)
    else k0 false
   else bif decide (a_4 ≥ 0) then
    bif decide (a_4 < 8) then
     bif decide (a_5 ≥ 0) then
      k0 (decide (a_5 < 4096))
     else k0 false
    else k0 false
   else k0 false))
def frame_Good {α : Type} (a_1 : Int) (a_2 : Int) (a_3 : Bool) (a_4 : Int) (a_5 : Int) (a_6 : Int) (a_7 : Bool) (a_8 : Nat) (a_9 : Nat → Nat → PV) (k0 : Bool → Option α) : Option α := frame_Good_T mac_Group frame_room a_1 a_2 a_3 a_4 a_5 a_6 a_7 a_8 a_9 k0
def frame_Good_S (Gmac_Group : Int → (Bool → Option Out) → Option Out) (Gframe_room : Bool → (Int → Option Out) → Option Out) : List (Nat × Sm) := [(25, yes), (56, smOf [(mac_Group_p, fun h k => Gmac_Group (gI h 0) (fun r0 => k (.v (.c (.pv (.val (.bool r0))))) []))]), (76, smOf [(frame_room_p, fun h k => Gframe_room (gB h 0) (fun r0 => k (.v (.c (.pv (.val (.int .i64 r0))))) []))])]
def frame_Good_B (Gmac_Group : Int → (Bool → Option Out) → Option Out) (Gframe_room : Bool → (Int → Option Out) → Option Out) : Hooks := []
theorem frame_Good_eq (Gmac_Group : Int → (Bool → Option Out) → Option Out) (Gframe_room : Bool → (Int → Option Out) → Option Out) (a_1 : Int) (a_2 : Int) (a_3 : Bool) (a_4 : Int) (a_5 : Int) (a_6 : Int) (a_7 : Bool) (a_8 : Nat) (a_9 : Nat → Nat → PV) (k : FK) : runS tt (has eql) Try.prog.funcs 1152921504606846976 (frame_Good_S Gmac_Group Gframe_room) (frame_Good_B Gmac_Group Gframe_room) (has bor) 40 31 [.v (.agg [.pv (.val (.int .u64 a_1)), .pv (.val (.int .u64 a_2)), .pv (.val (.bool a_3)), .pv (.val (.int .i64 a_4)), .pv (.val (.int .i64 a_5)), .pv (.val (.int .i64 a_6)), .pv (.sl a_7 (.int .u8 .nil) 1 a_8 (a_9))])] [] k = frame_Good_T Gmac_Group Gframe_room a_1 a_2 a_3 a_4 a_5 a_6 a_7 a_8 a_9 (fun r0 => k (.v (.c (.pv (.val (.bool r0))))) []) := by kernel_rfl
def frame_Good_p : PAr := ⟨[.v (.agg [.pv (.int .u64 .h), .pv (.int .u64 .h), .pv (.bool .h), .pv (.int .i64 .h), .pv (.int .i64 .h), .pv (.int .i64 .h), .pv (.sl .h (.int .u8 .nil) 1 .h)])], []⟩
def frame_Good_F (h : List Hole) (k : FK) : Option Out := frame_Good (gI h 0) (gI h 1) (gB h 2) (gI h 3) (gI h 4) (gI h 5) (gB h 6) (gN h 7) (gF h 8) (fun r0 => k (.v (.c (.pv (.val (.bool r0))))) [])
theorem frame_Good_at (h : List Hole) : CallAt Try.prog 31 (arFill frame_Good_p h).1 (arFill frame_Good_p h).2 (frame_Good_F h) := by
  have e : arFill frame_Good_p h = ([.v (.agg [.pv (.val (.int .u64 (gI h 0))), .pv (.val (.int .u64 (gI h 1))), .pv (.val (.bool (gB h 2))), .pv (.val (.int .i64 (gI h 3))), .pv (.val (.int .i64 (gI h 4))), .pv (.val (.int .i64 (gI h 5))), .pv (.sl (gB h 6) (.int .u8 .nil) 1 (gN h 7) ((gF h 8)))])], []) := by kernel_rfl
  rw [e]; exact callAt_of (runS_ok ttOk eqOk mixed (names_ok namesOk) (S := frame_Good_S mac_Group frame_room) (sums_cons yes25_ok (sums_cons (smOf_ok (alts_cons mac_Group_at alts_nil)) (sums_cons (smOf_ok (alts_cons frame_room_at alts_nil)) (sums_nil)))) (B := frame_Good_B mac_Group frame_room) (hooks_nil) (has bor) 40) fun k => frame_Good_eq mac_Group frame_room _ _ _ _ _ _ _ _ _ k
def e1 (x0 : Int) : Nat → Nat → PV := rowOf 1 [.val (.int .u8 (IntKind.u8.wrap (shrI .i64 x0 8))), .val (.int .u8 (IntKind.u8.wrap x0))]
def e2 (x0 : Int) (x1 : Int) : Nat → Nat → PV := rowOf 1 [.val (.int .u8 (IntKind.u8.wrap (shrI .i64 (bits .or .i64 (shlI .i64 x0 13) x1) 8))), .val (.int .u8 (IntKind.u8.wrap (bits .or .i64 (shlI .i64 x0 13) x1)))]
def e3 (x0 : Int) (x1 : Int) : Nat → Nat → PV := rowOf 1 [.sl false (.int .u8 .nil) 1 2 (rowOf 1 [.val (.int .u8 129), .val (.int .u8 0)]), .sl false (.int .u8 .nil) 1 2 (e2 x0 x1)]
def e4 (x0 : Nat → Nat → PV) : Int := IntKind.i64.wrap ((IntKind.i64.wrap (0 + ((lenOf (x0 0 0) : Nat) : Int))) + ((lenOf (x0 1 0) : Nat) : Int))
/- slices.Grow[[]byte,byte] -/
def slices_Grow_byte_byte_T {α : Type}  (a_1 : Int) (k0 : Option α) (k1 : Nat → (Nat → Nat → PV) → Option α) : Option α := bif decide (a_1 < 0) then
  none /- op makeInterface -/
 else bif decide ((IntKind.i64.wrap (a_1 - 0)) > 0) then
  bif (decide (0 ≤ IntKind.i64.wrap (a_1 - 0)) && decide (IntKind.i64.wrap (a_1 - 0) ≤ 4611686018427387904)) then
   bif Nat.beq ((IntKind.i64.wrap (a_1 - 0)).toNat) 0 then
    k0
   else bif Nat.ble (((IntKind.i64.wrap (a_1 - 0)).toNat) * 1) bound then
    bif inb 0 (((IntKind.i64.wrap (a_1 - 0)).toNat) + 1) then
     k1 ((IntKind.i64.wrap (a_1 - 0)).toNat) (fun _ j => .val (([.int .u8 0] : List Value).getD j undef))
    else none /- test -/
   else none /- test -/
  else none /- test -/
 else k0
def slices_Grow_byte_byte {α : Type} (a_1 : Int) (k0 : Option α) (k1 : Nat → (Nat → Nat → PV) → Option α) : Option α := slices_Grow_byte_byte_T  a_1 k0 k1
def slices_Grow_byte_byte_S  : List (Nat × Sm) := [(25, yes)]
def slices_Grow_byte_byte_B  : Hooks := []
theorem slices_Grow_byte_byte_eq  (a_1 : Int) (k : FK) : runS tt (has eql) Try.prog.funcs 1152921504606846976 (slices_Grow_byte_byte_S ) (slices_Grow_byte_byte_B ) (has bor) 40 107 [.v (.c (.pv (.val (.slice none 0 0)))), .v (.c (.pv (.val (.int .i64 a_1))))] [] k = slices_Grow_byte_byte_T  a_1 (k (.v (.c (.pv (.val (.slice none 0 0))))) []) (fun r0 r1 => k (.v (.c (.pre 0 0))) [.parr false (.int .u8 .nil) 1 r0 (r1)]) := by kernel_rfl
def slices_Grow_byte_byte_p : PAr := ⟨[.v (.c (.pv (.nil))), .v (.c (.pv (.int .i64 .h)))], []⟩
def slices_Grow_byte_byte_F (h : List Hole) (k : FK) : Option Out := slices_Grow_byte_byte (gI h 0) (k (.v (.c (.pv (.val (.slice none 0 0))))) []) (fun r0 r1 => k (.v (.c (.pre 0 0))) [.parr false (.int .u8 .nil) 1 r0 (r1)])
theorem slices_Grow_byte_byte_at (h : List Hole) : CallAt Try.prog 107 (arFill slices_Grow_byte_byte_p h).1 (arFill slices_Grow_byte_byte_p h).2 (slices_Grow_byte_byte_F h) := by
  have e : arFill slices_Grow_byte_byte_p h = ([.v (.c (.pv (.val (.slice none 0 0)))), .v (.c (.pv (.val (.int .i64 (gI h 0)))))], []) := by kernel_rfl
  rw [e]; exact callAt_of (runS_ok ttOk eqOk mixed (names_ok namesOk) (S := slices_Grow_byte_byte_S ) (sums_cons yes25_ok (sums_nil)) (B := slices_Grow_byte_byte_B ) (hooks_nil) (has bor) 40) fun k => slices_Grow_byte_byte_eq  _ k
/- slices.Concat[[]byte,byte] -/
def slices_Concat_byte_byte_T {α : Type} (Gslices_Grow_byte_byte : Int → (Option α) → (Nat → (Nat → Nat → PV) → Option α) → Option α) (a_1 : Nat → Nat → PV) (k0 : (Nat → Nat → PV) → Option α) (k1 : (Nat → Nat → PV) → Nat → (Nat → Nat → PV) → Option α) : Option α := bif decide ((IntKind.i64.wrap (0 + ((lenOf (a_1 0 0) : Nat) : Int))) < 0) then
  none /- op makeInterface -/
 else bif decide ((e4 a_1) < 0) then
  none /- op makeInterface -/
 else Gslices_Grow_byte_byte (e4 a_1)
  (bif Nat.beq (lenOf (a_1 0 0)) 0 then
   bif Nat.beq (lenOf (a_1 1 0)) 0 then
    k0 a_1
   else bif Nat.ble ((lenOf (a_1 1 0)) * 1) bound then
    k1 a_1 (lenOf (a_1 1 0)) (fnOf (a_1 1 0))
   else none /- test -/
  else bif Nat.ble ((lenOf (a_1 0 0)) * 1) bound then
   bif Nat.ble (((lenOf (a_1 0 0)) + (lenOf (a_1 1 0))) * 1) bound then
    k1 a_1 ((lenOf (a_1 0 0)) + (lenOf (a_1 1 0))) (catf (lenOf (a_1 0 0)) (fnOf (a_1 0 0)) (fnOf (a_1 1 0)))
   else none /- test -/
  else none /- test -/)
  (fun r_2 r_3 => bif (Nat.ble 0 r_2 && Nat.ble ((0 + (lenOf (a_1 0 0))) * 1) bound) then
   bif Nat.ble (((0 + (lenOf (a_1 0 0))) + (lenOf (a_1 1 0))) * 1) bound then
    k1 a_1 ((0 + (lenOf (a_1 0 0))) + (lenOf (a_1 1 0))) (catf (0 + (lenOf (a_1 0 0))) (catf 0 (r_3) (fnOf (a_1 0 0))) (fnOf (a_1 1 0)))
   else none /- test -/
  else none /- test -/)
def slices_Concat_byte_byte {α : Type} (a_1 : Nat → Nat → PV) (k0 : (Nat → Nat → PV) → Option α) (k1 : (Nat → Nat → PV) → Nat → (Nat → Nat → PV) → Option α) : Option α := slices_Concat_byte_byte_T slices_Grow_byte_byte a_1 k0 k1
def slices_Concat_byte_byte_S (Gslices_Grow_byte_byte : Int → (Option Out) → (Nat → (Nat → Nat → PV) → Option Out) → Option Out) : List (Nat × Sm) := [(25, yes), (107, smOf [(slices_Grow_byte_byte_p, fun h k => Gslices_Grow_byte_byte (gI h 0) (k (.v (.c (.pv (.val (.slice none 0 0))))) []) (fun r0 r1 => k (.v (.c (.pre 0 0))) [.parr false (.int .u8 .nil) 1 r0 (r1)]))])]
def slices_Concat_byte_byte_B (Gslices_Grow_byte_byte : Int → (Option Out) → (Nat → (Nat → Nat → PV) → Option Out) → Option Out) : Hooks := []
theorem slices_Concat_byte_byte_eq (Gslices_Grow_byte_byte : Int → (Option Out) → (Nat → (Nat → Nat → PV) → Option Out) → Option Out) (a_1 : Nat → Nat → PV) (k : FK) : runS tt (has eql) Try.prog.funcs 1152921504606846976 (slices_Concat_byte_byte_S Gslices_Grow_byte_byte) (slices_Concat_byte_byte_B Gslices_Grow_byte_byte) (has bor) 40 97 [.v (.c (.own 0))] [.parr false (.sl (.int .u8 .nil) 1 .nil) 1 2 (a_1)] k = slices_Concat_byte_byte_T Gslices_Grow_byte_byte a_1 (fun r0 => k (.v (.c (.pv (.val (.slice none 0 0))))) [.parr false (.sl (.int .u8 .nil) 1 .nil) 1 2 (r0)]) (fun r0 r1 r2 => k (.v (.c (.own 1))) [.parr false (.sl (.int .u8 .nil) 1 .nil) 1 2 (r0), .parr false (.int .u8 .nil) 1 r1 (r2)]) := by kernel_rfl
def slices_Concat_byte_byte_p : PAr := ⟨[.v (.c (.own 0))], [.parr (.l false) (.sl (.int .u8 .nil) 1 .nil) 1 (.l 2)]⟩
def slices_Concat_byte_byte_F (h : List Hole) (k : FK) : Option Out := slices_Concat_byte_byte (gF h 0) (fun r0 => k (.v (.c (.pv (.val (.slice none 0 0))))) [.parr false (.sl (.int .u8 .nil) 1 .nil) 1 2 (r0)]) (fun r0 r1 r2 => k (.v (.c (.own 1))) [.parr false (.sl (.int .u8 .nil) 1 .nil) 1 2 (r0), .parr false (.int .u8 .nil) 1 r1 (r2)])
theorem slices_Concat_byte_byte_at (h : List Hole) : CallAt Try.prog 97 (arFill slices_Concat_byte_byte_p h).1 (arFill slices_Concat_byte_byte_p h).2 (slices_Concat_byte_byte_F h) := by
  have e : arFill slices_Concat_byte_byte_p h = ([.v (.c (.own 0))], [.parr false (.sl (.int .u8 .nil) 1 .nil) 1 2 ((gF h 0))]) := by kernel_rfl
  rw [e]; exact callAt_of (runS_ok ttOk eqOk mixed (names_ok namesOk) (S := slices_Concat_byte_byte_S slices_Grow_byte_byte) (sums_cons yes25_ok (sums_cons (smOf_ok (alts_cons slices_Grow_byte_byte_at alts_nil)) (sums_nil))) (B := slices_Concat_byte_byte_B slices_Grow_byte_byte) (hooks_nil) (has bor) 40) fun k => slices_Concat_byte_byte_eq slices_Grow_byte_byte _ k
/- weirgate/frame.join -/
def frame_join_T {α : Type} (Gslices_Concat_byte_byte : (Nat → Nat → PV) → ((Nat → Nat → PV) → Option α) → ((Nat → Nat → PV) → Nat → (Nat → Nat → PV) → Option α) → Option α) (a_1 : Nat → Nat → PV) (k0 : (Nat → Nat → PV) → Option α) (k1 : (Nat → Nat → PV) → Nat → (Nat → Nat → PV) → Option α) : Option α := Gslices_Concat_byte_byte a_1
  (fun r_2 => k0 r_2)
  (fun r_2 r_3 r_4 => k1 r_2 r_3 r_4)
def frame_join {α : Type} (a_1 : Nat → Nat → PV) (k0 : (Nat → Nat → PV) → Option α) (k1 : (Nat → Nat → PV) → Nat → (Nat → Nat → PV) → Option α) : Option α := frame_join_T slices_Concat_byte_byte a_1 k0 k1
def frame_join_S (Gslices_Concat_byte_byte : (Nat → Nat → PV) → ((Nat → Nat → PV) → Option Out) → ((Nat → Nat → PV) → Nat → (Nat → Nat → PV) → Option Out) → Option Out) : List (Nat × Sm) := [(25, yes), (97, smOf [(slices_Concat_byte_byte_p, fun h k => Gslices_Concat_byte_byte (gF h 0) (fun r0 => k (.v (.c (.pv (.val (.slice none 0 0))))) [.parr false (.sl (.int .u8 .nil) 1 .nil) 1 2 (r0)]) (fun r0 r1 r2 => k (.v (.c (.own 1))) [.parr false (.sl (.int .u8 .nil) 1 .nil) 1 2 (r0), .parr false (.int .u8 .nil) 1 r1 (r2)]))])]
def frame_join_B (Gslices_Concat_byte_byte : (Nat → Nat → PV) → ((Nat → Nat → PV) → Option Out) → ((Nat → Nat → PV) → Nat → (Nat → Nat → PV) → Option Out) → Option Out) : Hooks := []
theorem frame_join_eq (Gslices_Concat_byte_byte : (Nat → Nat → PV) → ((Nat → Nat → PV) → Option Out) → ((Nat → Nat → PV) → Nat → (Nat → Nat → PV) → Option Out) → Option Out) (a_1 : Nat → Nat → PV) (k : FK) : runS tt (has eql) Try.prog.funcs 1152921504606846976 (frame_join_S Gslices_Concat_byte_byte) (frame_join_B Gslices_Concat_byte_byte) (has bor) 40 68 [.v (.c (.own 0))] [.parr false (.sl (.int .u8 .nil) 1 .nil) 1 2 (a_1)] k = frame_join_T Gslices_Concat_byte_byte a_1 (fun r0 => k (.v (.c (.pv (.val (.slice none 0 0))))) [.parr false (.sl (.int .u8 .nil) 1 .nil) 1 2 (r0)]) (fun r0 r1 r2 => k (.v (.c (.own 1))) [.parr false (.sl (.int .u8 .nil) 1 .nil) 1 2 (r0), .parr false (.int .u8 .nil) 1 r1 (r2)]) := by kernel_rfl
def frame_join_p : PAr := ⟨[.v (.c (.own 0))], [.parr (.l false) (.sl (.int .u8 .nil) 1 .nil) 1 (.l 2)]⟩
def frame_join_F (h : List Hole) (k : FK) : Option Out := frame_join (gF h 0) (fun r0 => k (.v (.c (.pv (.val (.slice none 0 0))))) [.parr false (.sl (.int .u8 .nil) 1 .nil) 1 2 (r0)]) (fun r0 r1 r2 => k (.v (.c (.own 1))) [.parr false (.sl (.int .u8 .nil) 1 .nil) 1 2 (r0), .parr false (.int .u8 .nil) 1 r1 (r2)])
theorem frame_join_at (h : List Hole) : CallAt Try.prog 68 (arFill frame_join_p h).1 (arFill frame_join_p h).2 (frame_join_F h) := by
  have e : arFill frame_join_p h = ([.v (.c (.own 0))], [.parr false (.sl (.int .u8 .nil) 1 .nil) 1 2 ((gF h 0))]) := by kernel_rfl
  rw [e]; exact callAt_of (runS_ok ttOk eqOk mixed (names_ok namesOk) (S := frame_join_S slices_Concat_byte_byte) (sums_cons yes25_ok (sums_cons (smOf_ok (alts_cons slices_Concat_byte_byte_at alts_nil)) (sums_nil))) (B := frame_join_B slices_Concat_byte_byte) (hooks_nil) (has bor) 40) fun k => frame_join_eq slices_Concat_byte_byte _ k
def e5 (x0 : Int) (x1 : Int) (x2 : Int) (x3 : Bool) (x4 : Nat) (x5 : Nat → Nat → PV) : Nat → Nat → PV := rowOf 1 [.sl false (.int .u8 .nil) 1 6 (fun j c => pvAt [.pv (.val (.int .u8 (IntKind.u8.wrap (shrI .u64 x0 40)))), .pv (.val (.int .u8 (IntKind.u8.wrap (shrI .u64 x0 32)))), .pv (.val (.int .u8 (IntKind.u8.wrap (shrI .u64 x0 24)))), .pv (.val (.int .u8 (IntKind.u8.wrap (shrI .u64 x0 16)))), .pv (.val (.int .u8 (IntKind.u8.wrap (shrI .u64 x0 8)))), .pv (.val (.int .u8 (IntKind.u8.wrap (shrI .u64 x0 0))))] (0 + j * 1 + c)), .sl false (.int .u8 .nil) 1 6 (fun j c => pvAt [.pv (.val (.int .u8 (IntKind.u8.wrap (shrI .u64 x1 40)))), .pv (.val (.int .u8 (IntKind.u8.wrap (shrI .u64 x1 32)))), .pv (.val (.int .u8 (IntKind.u8.wrap (shrI .u64 x1 24)))), .pv (.val (.int .u8 (IntKind.u8.wrap (shrI .u64 x1 16)))), .pv (.val (.int .u8 (IntKind.u8.wrap (shrI .u64 x1 8)))), .pv (.val (.int .u8 (IntKind.u8.wrap (shrI .u64 x1 0))))] (0 + j * 1 + c)), .val (.slice none 0 0), .sl false (.int .u8 .nil) 1 2 (e1 x2), .sl x3 (.int .u8 .nil) 1 x4 (x5)]
def e6 (x0 : Nat → Nat → PV) : Int := IntKind.i64.wrap ((IntKind.i64.wrap ((e4 x0) + ((lenOf (x0 2 0) : Nat) : Int))) + ((lenOf (x0 3 0) : Nat) : Int))
def e7 (x0 : Nat → Nat → PV) : Nat → Nat → PV := catf ((lenOf (x0 2 0)) + (lenOf (x0 3 0))) (catf (lenOf (x0 2 0)) (fnOf (x0 2 0)) (fnOf (x0 3 0))) (fnOf (x0 4 0))
def e8 (x0 : Nat → Nat → PV) : Nat → Nat → PV := catf ((lenOf (x0 1 0)) + (lenOf (x0 2 0))) (catf (lenOf (x0 1 0)) (fnOf (x0 1 0)) (fnOf (x0 2 0))) (fnOf (x0 3 0))
def e9 (x0 : Nat → Nat → PV) : Nat → Nat → PV := catf (((lenOf (x0 1 0)) + (lenOf (x0 2 0))) + (lenOf (x0 3 0))) (e8 x0) (fnOf (x0 4 0))
def e10 (x0 : Nat → Nat → PV) : Nat → Nat → PV := catf ((lenOf (x0 0 0)) + (lenOf (x0 1 0))) (catf (lenOf (x0 0 0)) (fnOf (x0 0 0)) (fnOf (x0 1 0))) (fnOf (x0 2 0))
def e11 (x0 : Nat → Nat → PV) : Nat → Nat → PV := catf (((lenOf (x0 0 0)) + (lenOf (x0 1 0))) + (lenOf (x0 2 0))) (e10 x0) (fnOf (x0 3 0))
def e12 (x0 : Nat → Nat → PV) : Nat → Nat → PV := catf ((((lenOf (x0 0 0)) + (lenOf (x0 1 0))) + (lenOf (x0 2 0))) + (lenOf (x0 3 0))) (e11 x0) (fnOf (x0 4 0))
def e13 (x0 : Nat → Nat → PV) : Nat := ((((lenOf (x0 0 0)) + (lenOf (x0 1 0))) + (lenOf (x0 2 0))) + (lenOf (x0 3 0))) + (lenOf (x0 4 0))
def e14 (x0 : Nat → Nat → PV) (x1 : Nat → Nat → PV) : Nat → Nat → PV := catf ((0 + (lenOf (x0 0 0))) + (lenOf (x0 1 0))) (catf (0 + (lenOf (x0 0 0))) (catf 0 (x1) (fnOf (x0 0 0))) (fnOf (x0 1 0))) (fnOf (x0 2 0))
def e15 (x0 : Nat → Nat → PV) (x1 : Nat → Nat → PV) : Nat → Nat → PV := catf (((0 + (lenOf (x0 0 0))) + (lenOf (x0 1 0))) + (lenOf (x0 2 0))) (e14 x0 x1) (fnOf (x0 3 0))
def e16 (x0 : Nat → Nat → PV) (x1 : Nat → Nat → PV) : Nat → Nat → PV := catf ((((0 + (lenOf (x0 0 0))) + (lenOf (x0 1 0))) + (lenOf (x0 2 0))) + (lenOf (x0 3 0))) (e15 x0 x1) (fnOf (x0 4 0))
def e17 (x0 : Nat → Nat → PV) : Nat := ((((0 + (lenOf (x0 0 0))) + (lenOf (x0 1 0))) + (lenOf (x0 2 0))) + (lenOf (x0 3 0))) + (lenOf (x0 4 0))
/- slices.Concat[[]byte,byte] -/
def slices_Concat_byte_byte_v1_T {α : Type} (Gslices_Grow_byte_byte : Int → (Option α) → (Nat → (Nat → Nat → PV) → Option α) → Option α) (a_1 : Nat → Nat → PV) (k0 : (Nat → Nat → PV) → Option α) (k1 : (Nat → Nat → PV) → Nat → (Nat → Nat → PV) → Option α) : Option α := bif decide ((IntKind.i64.wrap (0 + ((lenOf (a_1 0 0) : Nat) : Int))) < 0) then
  none /- op makeInterface -/
 else bif decide ((e4 a_1) < 0) then
  none /- op makeInterface -/
 else bif decide ((IntKind.i64.wrap ((e4 a_1) + ((lenOf (a_1 2 0) : Nat) : Int))) < 0) then
  none /- op makeInterface -/
 else bif decide ((e6 a_1) < 0) then
  none /- op makeInterface -/
 else bif decide ((IntKind.i64.wrap ((e6 a_1) + ((lenOf (a_1 4 0) : Nat) : Int))) < 0) then
  none /- op makeInterface -/
 else Gslices_Grow_byte_byte (IntKind.i64.wrap ((e6 a_1) + ((lenOf (a_1 4 0) : Nat) : Int)))
  (bif Nat.beq (lenOf (a_1 0 0)) 0 then
   bif Nat.beq (lenOf (a_1 1 0)) 0 then
    bif Nat.beq (lenOf (a_1 2 0)) 0 then
     bif Nat.beq (lenOf (a_1 3 0)) 0 then
      bif Nat.beq (lenOf (a_1 4 0)) 0 then
       k0 a_1
      else bif Nat.ble ((lenOf (a_1 4 0)) * 1) bound then
       k1 a_1 (lenOf (a_1 4 0)) (fnOf (a_1 4 0))
      else none /- test -/
     else bif Nat.ble ((lenOf (a_1 3 0)) * 1) bound then
      bif Nat.ble (((lenOf (a_1 3 0)) + (lenOf (a_1 4 0))) * 1) bound then
       k1 a_1 ((lenOf (a_1 3 0)) + (lenOf (a_1 4 0))) (catf (lenOf (a_1 3 0)) (fnOf (a_1 3 0)) (fnOf (a_1 4 0)))
      else none /- test -/
     else none /- test -/
    else bif Nat.ble ((lenOf (a_1 2 0)) * 1) bound then
     bif Nat.ble (((lenOf (a_1 2 0)) + (lenOf (a_1 3 0))) * 1) bound then
      bif Nat.ble ((((lenOf (a_1 2 0)) + (lenOf (a_1 3 0))) + (lenOf (a_1 4 0))) * 1) bound then
       k1 a_1 (((lenOf (a_1 2 0)) + (lenOf (a_1 3 0))) + (lenOf (a_1 4 0))) (e7 a_1)
      else none /- test -/
     else none /- test -/
    else none /- test -/
   else bif Nat.ble ((lenOf (a_1 1 0)) * 1) bound then
    bif Nat.ble (((lenOf (a_1 1 0)) + (lenOf (a_1 2 0))) * 1) bound then
     bif Nat.ble ((((lenOf (a_1 1 0)) + (lenOf (a_1 2 0))) + (lenOf (a_1 3 0))) * 1) bound then
      bif Nat.ble (((((lenOf (a_1 1 0)) + (lenOf (a_1 2 0))) + (lenOf (a_1 3 0))) + (lenOf (a_1 4 0))) * 1) bound then
       k1 a_1 ((((lenOf (a_1 1 0)) + (lenOf (a_1 2 0))) + (lenOf (a_1 3 0))) + (lenOf (a_1 4 0))) (e9 a_1)
      else none /- test -/
     else none /- test -/
    else none /- test -/
   else none /- test -/
  else bif Nat.ble ((lenOf (a_1 0 0)) * 1) bound then
   bif Nat.ble (((lenOf (a_1 0 0)) + (lenOf (a_1 1 0))) * 1) bound then
    bif Nat.ble ((((lenOf (a_1 0 0)) + (lenOf (a_1 1 0))) + (lenOf (a_1 2 0))) * 1) bound then
     bif Nat.ble (((((lenOf (a_1 0 0)) + (lenOf (a_1 1 0))) + (lenOf (a_1 2 0))) + (lenOf (a_1 3 0))) * 1) bound then
      bif Nat.ble ((((((lenOf (a_1 0 0)) + (lenOf (a_1 1 0))) + (lenOf (a_1 2 0))) + (lenOf (a_1 3 0))) + (lenOf (a_1 4 0))) * 1) bound then
       k1 a_1 (e13 a_1) (e12 a_1)
      else none /- test -/
     else none /- test -/
    else none /- test -/
   else none /- test -/
  else none /- test -/)
  (fun r_2 r_3 => bif (Nat.ble 0 r_2 && Nat.ble ((0 + (lenOf (a_1 0 0))) * 1) bound) then
   bif Nat.ble (((0 + (lenOf (a_1 0 0))) + (lenOf (a_1 1 0))) * 1) bound then
    bif Nat.ble ((((0 + (lenOf (a_1 0 0))) + (lenOf (a_1 1 0))) + (lenOf (a_1 2 0))) * 1) bound then
     bif Nat.ble (((((0 + (lenOf (a_1 0 0))) + (lenOf (a_1 1 0))) + (lenOf (a_1 2 0))) + (lenOf (a_1 3 0))) * 1) bound then
      bif Nat.ble ((((((0 + (lenOf (a_1 0 0))) + (lenOf (a_1 1 0))) + (lenOf (a_1 2 0))) + (lenOf (a_1 3 0))) + (lenOf (a_1 4 0))) * 1) bound then
       k1 a_1 (e17 a_1) (e16 a_1 r_3)
      else none /- test -/
     else none /- test -/
    else none /- test -/
   else none /- test -/
  else none /- test -/)
def slices_Concat_byte_byte_v1 {α : Type} (a_1 : Nat → Nat → PV) (k0 : (Nat → Nat → PV) → Option α) (k1 : (Nat → Nat → PV) → Nat → (Nat → Nat → PV) → Option α) : Option α := slices_Concat_byte_byte_v1_T slices_Grow_byte_byte a_1 k0 k1
def slices_Concat_byte_byte_v1_S (Gslices_Grow_byte_byte : Int → (Option Out) → (Nat → (Nat → Nat → PV) → Option Out) → Option Out) : List (Nat × Sm) := [(25, yes), (107, smOf [(slices_Grow_byte_byte_p, fun h k => Gslices_Grow_byte_byte (gI h 0) (k (.v (.c (.pv (.val (.slice none 0 0))))) []) (fun r0 r1 => k (.v (.c (.pre 0 0))) [.parr false (.int .u8 .nil) 1 r0 (r1)]))])]
def slices_Concat_byte_byte_v1_B (Gslices_Grow_byte_byte : Int → (Option Out) → (Nat → (Nat → Nat → PV) → Option Out) → Option Out) : Hooks := []
theorem slices_Concat_byte_byte_v1_eq (Gslices_Grow_byte_byte : Int → (Option Out) → (Nat → (Nat → Nat → PV) → Option Out) → Option Out) (a_1 : Nat → Nat → PV) (k : FK) : runS tt (has eql) Try.prog.funcs 1152921504606846976 (slices_Concat_byte_byte_v1_S Gslices_Grow_byte_byte) (slices_Concat_byte_byte_v1_B Gslices_Grow_byte_byte) (has bor) 40 97 [.v (.c (.own 0))] [.parr false (.sl (.int .u8 .nil) 1 .nil) 1 5 (a_1)] k = slices_Concat_byte_byte_v1_T Gslices_Grow_byte_byte a_1 (fun r0 => k (.v (.c (.pv (.val (.slice none 0 0))))) [.parr false (.sl (.int .u8 .nil) 1 .nil) 1 5 (r0)]) (fun r0 r1 r2 => k (.v (.c (.own 1))) [.parr false (.sl (.int .u8 .nil) 1 .nil) 1 5 (r0), .parr false (.int .u8 .nil) 1 r1 (r2)]) := by kernel_rfl
def slices_Concat_byte_byte_v1_p : PAr := ⟨[.v (.c (.own 0))], [.parr (.l false) (.sl (.int .u8 .nil) 1 .nil) 1 (.l 5)]⟩
def slices_Concat_byte_byte_v1_F (h : List Hole) (k : FK) : Option Out := slices_Concat_byte_byte_v1 (gF h 0) (fun r0 => k (.v (.c (.pv (.val (.slice none 0 0))))) [.parr false (.sl (.int .u8 .nil) 1 .nil) 1 5 (r0)]) (fun r0 r1 r2 => k (.v (.c (.own 1))) [.parr false (.sl (.int .u8 .nil) 1 .nil) 1 5 (r0), .parr false (.int .u8 .nil) 1 r1 (r2)])
theorem slices_Concat_byte_byte_v1_at (h : List Hole) : CallAt Try.prog 97 (arFill slices_Concat_byte_byte_v1_p h).1 (arFill slices_Concat_byte_byte_v1_p h).2 (slices_Concat_byte_byte_v1_F h) := by
  have e : arFill slices_Concat_byte_byte_v1_p h = ([.v (.c (.own 0))], [.parr false (.sl (.int .u8 .nil) 1 .nil) 1 5 ((gF h 0))]) := by kernel_rfl
  rw [e]; exact callAt_of (runS_ok ttOk eqOk mixed (names_ok namesOk) (S := slices_Concat_byte_byte_v1_S slices_Grow_byte_byte) (sums_cons yes25_ok (sums_cons (smOf_ok (alts_cons slices_Grow_byte_byte_at alts_nil)) (sums_nil))) (B := slices_Concat_byte_byte_v1_B slices_Grow_byte_byte) (hooks_nil) (has bor) 40) fun k => slices_Concat_byte_byte_v1_eq slices_Grow_byte_byte _ k
/- weirgate/frame.join -/
def frame_join_v1_T {α : Type} (Gslices_Concat_byte_byte_v1 : (Nat → Nat → PV) → ((Nat → Nat → PV) → Option α) → ((Nat → Nat → PV) → Nat → (Nat → Nat → PV) → Option α) → Option α) (a_1 : Nat → Nat → PV) (k0 : (Nat → Nat → PV) → Option α) (k1 : (Nat → Nat → PV) → Nat → (Nat → Nat → PV) → Option α) : Option α := Gslices_Concat_byte_byte_v1 a_1
  (fun r_2 => k0 r_2)
  (fun r_2 r_3 r_4 => k1 r_2 r_3 r_4)
def frame_join_v1 {α : Type} (a_1 : Nat → Nat → PV) (k0 : (Nat → Nat → PV) → Option α) (k1 : (Nat → Nat → PV) → Nat → (Nat → Nat → PV) → Option α) : Option α := frame_join_v1_T slices_Concat_byte_byte_v1 a_1 k0 k1
def frame_join_v1_S (Gslices_Concat_byte_byte_v1 : (Nat → Nat → PV) → ((Nat → Nat → PV) → Option Out) → ((Nat → Nat → PV) → Nat → (Nat → Nat → PV) → Option Out) → Option Out) : List (Nat × Sm) := [(25, yes), (97, smOf [(slices_Concat_byte_byte_p, slices_Concat_byte_byte_F), (slices_Concat_byte_byte_v1_p, fun h k => Gslices_Concat_byte_byte_v1 (gF h 0) (fun r0 => k (.v (.c (.pv (.val (.slice none 0 0))))) [.parr false (.sl (.int .u8 .nil) 1 .nil) 1 5 (r0)]) (fun r0 r1 r2 => k (.v (.c (.own 1))) [.parr false (.sl (.int .u8 .nil) 1 .nil) 1 5 (r0), .parr false (.int .u8 .nil) 1 r1 (r2)]))])]
def frame_join_v1_B (Gslices_Concat_byte_byte_v1 : (Nat → Nat → PV) → ((Nat → Nat → PV) → Option Out) → ((Nat → Nat → PV) → Nat → (Nat → Nat → PV) → Option Out) → Option Out) : Hooks := []
theorem frame_join_v1_eq (Gslices_Concat_byte_byte_v1 : (Nat → Nat → PV) → ((Nat → Nat → PV) → Option Out) → ((Nat → Nat → PV) → Nat → (Nat → Nat → PV) → Option Out) → Option Out) (a_1 : Nat → Nat → PV) (k : FK) : runS tt (has eql) Try.prog.funcs 1152921504606846976 (frame_join_v1_S Gslices_Concat_byte_byte_v1) (frame_join_v1_B Gslices_Concat_byte_byte_v1) (has bor) 40 68 [.v (.c (.own 0))] [.parr false (.sl (.int .u8 .nil) 1 .nil) 1 5 (a_1)] k = frame_join_v1_T Gslices_Concat_byte_byte_v1 a_1 (fun r0 => k (.v (.c (.pv (.val (.slice none 0 0))))) [.parr false (.sl (.int .u8 .nil) 1 .nil) 1 5 (r0)]) (fun r0 r1 r2 => k (.v (.c (.own 1))) [.parr false (.sl (.int .u8 .nil) 1 .nil) 1 5 (r0), .parr false (.int .u8 .nil) 1 r1 (r2)]) := by kernel_rfl
def frame_join_v1_p : PAr := ⟨[.v (.c (.own 0))], [.parr (.l false) (.sl (.int .u8 .nil) 1 .nil) 1 (.l 5)]⟩
def frame_join_v1_F (h : List Hole) (k : FK) : Option Out := frame_join_v1 (gF h 0) (fun r0 => k (.v (.c (.pv (.val (.slice none 0 0))))) [.parr false (.sl (.int .u8 .nil) 1 .nil) 1 5 (r0)]) (fun r0 r1 r2 => k (.v (.c (.own 1))) [.parr false (.sl (.int .u8 .nil) 1 .nil) 1 5 (r0), .parr false (.int .u8 .nil) 1 r1 (r2)])
theorem frame_join_v1_at (h : List Hole) : CallAt Try.prog 68 (arFill frame_join_v1_p h).1 (arFill frame_join_v1_p h).2 (frame_join_v1_F h) := by
  have e : arFill frame_join_v1_p h = ([.v (.c (.own 0))], [.parr false (.sl (.int .u8 .nil) 1 .nil) 1 5 ((gF h 0))]) := by kernel_rfl
  rw [e]; exact callAt_of (runS_ok ttOk eqOk mixed (names_ok namesOk) (S := frame_join_v1_S slices_Concat_byte_byte_v1) (sums_cons yes25_ok (sums_cons (smOf_ok (alts_cons slices_Concat_byte_byte_at (alts_cons slices_Concat_byte_byte_v1_at alts_nil))) (sums_nil))) (B := frame_join_v1_B slices_Concat_byte_byte_v1) (hooks_nil) (has bor) 40) fun k => frame_join_v1_eq slices_Concat_byte_byte_v1 _ k
def e18 (x0 : Int) (x1 : Int) (x2 : Nat) (x3 : Nat → Nat → PV) (x4 : Int) (x5 : Bool) (x6 : Nat) (x7 : Nat → Nat → PV) : Nat → Nat → PV := rowOf 1 [.sl false (.int .u8 .nil) 1 6 (fun j c => pvAt [.pv (.val (.int .u8 (IntKind.u8.wrap (shrI .u64 x0 40)))), .pv (.val (.int .u8 (IntKind.u8.wrap (shrI .u64 x0 32)))), .pv (.val (.int .u8 (IntKind.u8.wrap (shrI .u64 x0 24)))), .pv (.val (.int .u8 (IntKind.u8.wrap (shrI .u64 x0 16)))), .pv (.val (.int .u8 (IntKind.u8.wrap (shrI .u64 x0 8)))), .pv (.val (.int .u8 (IntKind.u8.wrap (shrI .u64 x0 0))))] (0 + j * 1 + c)), .sl false (.int .u8 .nil) 1 6 (fun j c => pvAt [.pv (.val (.int .u8 (IntKind.u8.wrap (shrI .u64 x1 40)))), .pv (.val (.int .u8 (IntKind.u8.wrap (shrI .u64 x1 32)))), .pv (.val (.int .u8 (IntKind.u8.wrap (shrI .u64 x1 24)))), .pv (.val (.int .u8 (IntKind.u8.wrap (shrI .u64 x1 16)))), .pv (.val (.int .u8 (IntKind.u8.wrap (shrI .u64 x1 8)))), .pv (.val (.int .u8 (IntKind.u8.wrap (shrI .u64 x1 0))))] (0 + j * 1 + c)), .sl false (.int .u8 .nil) 1 x2 (x3), .sl false (.int .u8 .nil) 1 2 (e1 x4), .sl x5 (.int .u8 .nil) 1 x6 (x7)]
/- weirgate/frame.Encode -/
def frame_Encode_T {α : Type} (Gframe_Good : Int → Int → Bool → Int → Int → Int → Bool → Nat → (Nat → Nat → PV) → (Bool → Option α) → Option α) (Gframe_join : (Nat → Nat → PV) → ((Nat → Nat → PV) → Option α) → ((Nat → Nat → PV) → Nat → (Nat → Nat → PV) → Option α) → Option α) (Gframe_join_v1 : (Nat → Nat → PV) → ((Nat → Nat → PV) → Option α) → ((Nat → Nat → PV) → Nat → (Nat → Nat → PV) → Option α) → Option α) (a_1 : Int) (a_2 : Int) (a_3 : Bool) (a_4 : Int) (a_5 : Int) (a_6 : Int) (a_7 : Bool) (a_8 : Nat) (a_9 : Nat → Nat → PV) (k0 : Option α) (k1 : Option α) (k2 : Nat → (Nat → Nat → PV) → Option α) : Option α := Gframe_Good a_1 a_2 a_3 a_4 a_5 a_6 a_7 a_8 a_9
  (fun r_10 => bif !r_10 then
   k0
  else bif a_3 then
   Gframe_join (e3 a_4 a_5)
    (fun r_11 => Gframe_join_v1 (e5 a_1 a_2 a_6 a_7 a_8 a_9)
     (fun r_12 => k1)
     (fun r_12 r_13 r_14 => k2 r_13 r_14))
    (fun r_11 r_12 r_13 => Gframe_join_v1 (e18 a_1 a_2 r_12 r_13 a_6 a_7 a_8 a_9)
     (fun r_14 => k1)
     (fun r_14 r_15 r_16 => k2 r_15 r_16))
  else Gframe_join_v1 (e5 a_1 a_2 a_6 a_7 a_8 a_9)
   (fun r_11 => k1)
   (fun r_11 r_12 r_13 => k2 r_12 r_13))
def frame_Encode {α : Type} (a_1 : Int) (a_2 : Int) (a_3 : Bool) (a_4 : Int) (a_5 : Int) (a_6 : Int) (a_7 : Bool) (a_8 : Nat) (a_9 : Nat → Nat → PV) (k0 : Option α) (k1 : Option α) (k2 : Nat → (Nat → Nat → PV) → Option α) : Option α := frame_Encode_T frame_Good frame_join frame_join_v1 a_1 a_2 a_3 a_4 a_5 a_6 a_7 a_8 a_9 k0 k1 k2
def frame_Encode_S (Gframe_Good : Int → Int → Bool → Int → Int → Int → Bool → Nat → (Nat → Nat → PV) → (Bool → Option Out) → Option Out) (Gframe_join : (Nat → Nat → PV) → ((Nat → Nat → PV) → Option Out) → ((Nat → Nat → PV) → Nat → (Nat → Nat → PV) → Option Out) → Option Out) (Gframe_join_v1 : (Nat → Nat → PV) → ((Nat → Nat → PV) → Option Out) → ((Nat → Nat → PV) → Nat → (Nat → Nat → PV) → Option Out) → Option Out) : List (Nat × Sm) := [(25, yes), (31, smOf [(frame_Good_p, fun h k => Gframe_Good (gI h 0) (gI h 1) (gB h 2) (gI h 3) (gI h 4) (gI h 5) (gB h 6) (gN h 7) (gF h 8) (fun r0 => k (.v (.c (.pv (.val (.bool r0))))) []))]), (68, smOf [(frame_join_p, fun h k => Gframe_join (gF h 0) (fun r0 => k (.v (.c (.pv (.val (.slice none 0 0))))) [.parr false (.sl (.int .u8 .nil) 1 .nil) 1 2 (r0)]) (fun r0 r1 r2 => k (.v (.c (.own 1))) [.parr false (.sl (.int .u8 .nil) 1 .nil) 1 2 (r0), .parr false (.int .u8 .nil) 1 r1 (r2)])), (frame_join_v1_p, fun h k => Gframe_join_v1 (gF h 0) (fun r0 => k (.v (.c (.pv (.val (.slice none 0 0))))) [.parr false (.sl (.int .u8 .nil) 1 .nil) 1 5 (r0)]) (fun r0 r1 r2 => k (.v (.c (.own 1))) [.parr false (.sl (.int .u8 .nil) 1 .nil) 1 5 (r0), .parr false (.int .u8 .nil) 1 r1 (r2)]))])]
def frame_Encode_B (Gframe_Good : Int → Int → Bool → Int → Int → Int → Bool → Nat → (Nat → Nat → PV) → (Bool → Option Out) → Option Out) (Gframe_join : (Nat → Nat → PV) → ((Nat → Nat → PV) → Option Out) → ((Nat → Nat → PV) → Nat → (Nat → Nat → PV) → Option Out) → Option Out) (Gframe_join_v1 : (Nat → Nat → PV) → ((Nat → Nat → PV) → Option Out) → ((Nat → Nat → PV) → Nat → (Nat → Nat → PV) → Option Out) → Option Out) : Hooks := []
theorem frame_Encode_eq (Gframe_Good : Int → Int → Bool → Int → Int → Int → Bool → Nat → (Nat → Nat → PV) → (Bool → Option Out) → Option Out) (Gframe_join : (Nat → Nat → PV) → ((Nat → Nat → PV) → Option Out) → ((Nat → Nat → PV) → Nat → (Nat → Nat → PV) → Option Out) → Option Out) (Gframe_join_v1 : (Nat → Nat → PV) → ((Nat → Nat → PV) → Option Out) → ((Nat → Nat → PV) → Nat → (Nat → Nat → PV) → Option Out) → Option Out) (a_1 : Int) (a_2 : Int) (a_3 : Bool) (a_4 : Int) (a_5 : Int) (a_6 : Int) (a_7 : Bool) (a_8 : Nat) (a_9 : Nat → Nat → PV) (k : FK) : runS tt (has eql) Try.prog.funcs 1152921504606846976 (frame_Encode_S Gframe_Good Gframe_join Gframe_join_v1) (frame_Encode_B Gframe_Good Gframe_join Gframe_join_v1) (has bor) 40 26 [.v (.agg [.pv (.val (.int .u64 a_1)), .pv (.val (.int .u64 a_2)), .pv (.val (.bool a_3)), .pv (.val (.int .i64 a_4)), .pv (.val (.int .i64 a_5)), .pv (.val (.int .i64 a_6)), .pv (.sl a_7 (.int .u8 .nil) 1 a_8 (a_9))])] [] k = frame_Encode_T Gframe_Good Gframe_join Gframe_join_v1 a_1 a_2 a_3 a_4 a_5 a_6 a_7 a_8 a_9 (k (.tup [.c (.pv (.val (.slice none 0 0))), .c (.pv (.val (.int .i64 11)))]) []) (k (.tup [.c (.pv (.val (.slice none 0 0))), .c (.pv (.val (.int .i64 0)))]) []) (fun r0 r1 => k (.tup [.c (.own 0), .c (.pv (.val (.int .i64 0)))]) [.parr false (.int .u8 .nil) 1 r0 (r1)]) := by kernel_rfl
def frame_Encode_p : PAr := ⟨[.v (.agg [.pv (.int .u64 .h), .pv (.int .u64 .h), .pv (.bool .h), .pv (.int .i64 .h), .pv (.int .i64 .h), .pv (.int .i64 .h), .pv (.sl .h (.int .u8 .nil) 1 .h)])], []⟩
def frame_Encode_F (h : List Hole) (k : FK) : Option Out := frame_Encode (gI h 0) (gI h 1) (gB h 2) (gI h 3) (gI h 4) (gI h 5) (gB h 6) (gN h 7) (gF h 8) (k (.tup [.c (.pv (.val (.slice none 0 0))), .c (.pv (.val (.int .i64 11)))]) []) (k (.tup [.c (.pv (.val (.slice none 0 0))), .c (.pv (.val (.int .i64 0)))]) []) (fun r0 r1 => k (.tup [.c (.own 0), .c (.pv (.val (.int .i64 0)))]) [.parr false (.int .u8 .nil) 1 r0 (r1)])
theorem frame_Encode_at (h : List Hole) : CallAt Try.prog 26 (arFill frame_Encode_p h).1 (arFill frame_Encode_p h).2 (frame_Encode_F h) := by
  have e : arFill frame_Encode_p h = ([.v (.agg [.pv (.val (.int .u64 (gI h 0))), .pv (.val (.int .u64 (gI h 1))), .pv (.val (.bool (gB h 2))), .pv (.val (.int .i64 (gI h 3))), .pv (.val (.int .i64 (gI h 4))), .pv (.val (.int .i64 (gI h 5))), .pv (.sl (gB h 6) (.int .u8 .nil) 1 (gN h 7) ((gF h 8)))])], []) := by kernel_rfl
  rw [e]; exact callAt_of (runS_ok ttOk eqOk mixed (names_ok namesOk) (S := frame_Encode_S frame_Good frame_join frame_join_v1) (sums_cons yes25_ok (sums_cons (smOf_ok (alts_cons frame_Good_at alts_nil)) (sums_cons (smOf_ok (alts_cons frame_join_at (alts_cons frame_join_v1_at alts_nil))) (sums_nil)))) (B := frame_Encode_B frame_Good frame_join frame_join_v1) (hooks_nil) (has bor) 40) fun k => frame_Encode_eq frame_Good frame_join frame_join_v1 _ _ _ _ _ _ _ _ _ k
def e19 (x0 : Nat → Nat → PV) : Int := bits .or .u64 (shlI .u64 (bits .or .u64 0 (IntKind.u64.wrap (numOf (x0 0 0)))) 8) (IntKind.u64.wrap (numOf (x0 1 0)))
def e20 (x0 : Nat → Nat → PV) : Int := bits .or .u64 (shlI .u64 (bits .or .u64 (shlI .u64 (e19 x0) 8) (IntKind.u64.wrap (numOf (x0 2 0)))) 8) (IntKind.u64.wrap (numOf (x0 3 0)))
def e21 (x0 : Nat → Nat → PV) : Int := bits .or .u64 (shlI .u64 (bits .or .u64 (shlI .u64 (e20 x0) 8) (IntKind.u64.wrap (numOf (x0 4 0)))) 8) (IntKind.u64.wrap (numOf (x0 5 0)))
def e22 (x0 : Nat → Nat → PV) : Int := bits .or .u64 (shlI .u64 (bits .or .u64 0 (IntKind.u64.wrap (numOf (x0 6 0)))) 8) (IntKind.u64.wrap (numOf (x0 7 0)))
def e23 (x0 : Nat → Nat → PV) : Int := bits .or .u64 (shlI .u64 (bits .or .u64 (shlI .u64 (e22 x0) 8) (IntKind.u64.wrap (numOf (x0 8 0)))) 8) (IntKind.u64.wrap (numOf (x0 9 0)))
def e24 (x0 : Nat → Nat → PV) : Int := bits .or .u64 (shlI .u64 (bits .or .u64 (shlI .u64 (e23 x0) 8) (IntKind.u64.wrap (numOf (x0 10 0)))) 8) (IntKind.u64.wrap (numOf (x0 11 0)))
def e25 (x0 : Nat → Nat → PV) : Int := bits .or .i64 (shlI .i64 (IntKind.i64.wrap (numOf (x0 12 0))) 8) (IntKind.i64.wrap (numOf (x0 13 0)))
/- weirgate/frame.Good -/
def frame_Good_v1_T {α : Type} (Gmac_Group : Int → (Bool → Option α) → Option α) (Gframe_room : Bool → (Int → Option α) → Option α) (a_1 : Int) (a_2 : Int) (a_3 : Int) (a_4 : Nat → Nat → PV) (k0 : (Nat → Nat → PV) → Option α) (k1 : (Nat → Nat → PV) → Option α) : Option α := bif !((shrI .u64 a_1 48) == 0) then
  k0 a_4
 else bif !((shrI .u64 a_2 48) == 0) then
  k0 a_4
 else Gmac_Group a_2
  (fun r_5 => bif r_5 then
   k0 a_4
  else bif decide (a_3 < 0) then
   k0 a_4
  else bif decide (a_3 ≥ 65536) then
   k0 a_4
  else bif (a_3 == 33024) then
   k0 a_4
  else Gframe_room false
   (fun r_6 => bif decide (3 > r_6) then
    k0 a_4
   else k1 a_4))
def frame_Good_v1 {α : Type} (a_1 : Int) (a_2 : Int) (a_3 : Int) (a_4 : Nat → Nat → PV) (k0 : (Nat → Nat → PV) → Option α) (k1 : (Nat → Nat → PV) → Option α) : Option α := frame_Good_v1_T mac_Group frame_room a_1 a_2 a_3 a_4 k0 k1
def frame_Good_v1_S (Gmac_Group : Int → (Bool → Option Out) → Option Out) (Gframe_room : Bool → (Int → Option Out) → Option Out) : List (Nat × Sm) := [(25, yes), (56, smOf [(mac_Group_p, fun h k => Gmac_Group (gI h 0) (fun r0 => k (.v (.c (.pv (.val (.bool r0))))) []))]), (76, smOf [(frame_room_p, fun h k => Gframe_room (gB h 0) (fun r0 => k (.v (.c (.pv (.val (.int .i64 r0))))) []))])]
def frame_Good_v1_B (Gmac_Group : Int → (Bool → Option Out) → Option Out) (Gframe_room : Bool → (Int → Option Out) → Option Out) : Hooks := []
theorem frame_Good_v1_eq (Gmac_Group : Int → (Bool → Option Out) → Option Out) (Gframe_room : Bool → (Int → Option Out) → Option Out) (a_1 : Int) (a_2 : Int) (a_3 : Int) (a_4 : Nat → Nat → PV) (k : FK) : runS tt (has eql) Try.prog.funcs 1152921504606846976 (frame_Good_v1_S Gmac_Group Gframe_room) (frame_Good_v1_B Gmac_Group Gframe_room) (has bor) 40 31 [.v (.agg [.pv (.val (.int .u64 a_1)), .pv (.val (.int .u64 a_2)), .pv (.val (.bool false)), .pv (.val (.int .i64 0)), .pv (.val (.int .i64 0)), .pv (.val (.int .i64 a_3)), .own 0])] [.parr false (.int .u8 .nil) 1 3 (a_4)] k = frame_Good_v1_T Gmac_Group Gframe_room a_1 a_2 a_3 a_4 (fun r0 => k (.v (.c (.pv (.val (.bool false))))) [.parr false (.int .u8 .nil) 1 3 (r0)]) (fun r0 => k (.v (.c (.pv (.val (.bool true))))) [.parr false (.int .u8 .nil) 1 3 (r0)]) := by kernel_rfl
def frame_Good_v1_p : PAr := ⟨[.v (.agg [.pv (.int .u64 .h), .pv (.int .u64 .h), .pv (.bool (.l false)), .pv (.int .i64 (.l 0)), .pv (.int .i64 (.l 0)), .pv (.int .i64 .h), .own 0])], [.parr (.l false) (.int .u8 .nil) 1 (.l 3)]⟩
def frame_Good_v1_F (h : List Hole) (k : FK) : Option Out := frame_Good_v1 (gI h 0) (gI h 1) (gI h 2) (gF h 3) (fun r0 => k (.v (.c (.pv (.val (.bool false))))) [.parr false (.int .u8 .nil) 1 3 (r0)]) (fun r0 => k (.v (.c (.pv (.val (.bool true))))) [.parr false (.int .u8 .nil) 1 3 (r0)])
theorem frame_Good_v1_at (h : List Hole) : CallAt Try.prog 31 (arFill frame_Good_v1_p h).1 (arFill frame_Good_v1_p h).2 (frame_Good_v1_F h) := by
  have e : arFill frame_Good_v1_p h = ([.v (.agg [.pv (.val (.int .u64 (gI h 0))), .pv (.val (.int .u64 (gI h 1))), .pv (.val (.bool false)), .pv (.val (.int .i64 0)), .pv (.val (.int .i64 0)), .pv (.val (.int .i64 (gI h 2))), .own 0])], [.parr false (.int .u8 .nil) 1 3 ((gF h 3))]) := by kernel_rfl
  rw [e]; exact callAt_of (runS_ok ttOk eqOk mixed (names_ok namesOk) (S := frame_Good_v1_S mac_Group frame_room) (sums_cons yes25_ok (sums_cons (smOf_ok (alts_cons mac_Group_at alts_nil)) (sums_cons (smOf_ok (alts_cons frame_room_at alts_nil)) (sums_nil)))) (B := frame_Good_v1_B mac_Group frame_room) (hooks_nil) (has bor) 40) fun k => frame_Good_v1_eq mac_Group frame_room _ _ _ _ k
/- weirgate/frame.Parse -/
def frame_Parse_T {α : Type} (Gframe_Good_v1 : Int → Int → Int → (Nat → Nat → PV) → ((Nat → Nat → PV) → Option α) → ((Nat → Nat → PV) → Option α) → Option α) (a_1 : Nat) (a_2 : Nat → Nat → PV) (k0 : Nat → (Nat → Nat → PV) → Option α) (k1 : Int → Int → Int → Nat → (Nat → Nat → PV) → (Nat → Nat → PV) → Option α) : Option α := bif inb 6 (a_1 + 1) then
  bif inb 12 (a_1 + 1) then
   bif inb 17 (a_1 + 1) then
    bif ((e25 a_2) == 33024) then
     k0 a_1 a_2
    else Gframe_Good_v1 (e21 a_2) (e24 a_2) (e25 a_2) (catf 0 (rowOf 1 []) (fun j c => (a_2) (14 + j) c))
     (fun r_3 => k0 a_1 a_2)
     (fun r_3 => k1 (e21 a_2) (e24 a_2) (e25 a_2) a_1 a_2 r_3)
   else none /- test -/
  else none /- test -/
 else none /- test -/
def frame_Parse {α : Type} (a_1 : Nat) (a_2 : Nat → Nat → PV) (k0 : Nat → (Nat → Nat → PV) → Option α) (k1 : Int → Int → Int → Nat → (Nat → Nat → PV) → (Nat → Nat → PV) → Option α) : Option α := frame_Parse_T frame_Good_v1 a_1 a_2 k0 k1
def frame_Parse_S (Gframe_Good_v1 : Int → Int → Int → (Nat → Nat → PV) → ((Nat → Nat → PV) → Option Out) → ((Nat → Nat → PV) → Option Out) → Option Out) : List (Nat × Sm) := [(25, yes), (31, smOf [(frame_Good_p, frame_Good_F), (frame_Good_v1_p, fun h k => Gframe_Good_v1 (gI h 0) (gI h 1) (gI h 2) (gF h 3) (fun r0 => k (.v (.c (.pv (.val (.bool false))))) [.parr false (.int .u8 .nil) 1 3 (r0)]) (fun r0 => k (.v (.c (.pv (.val (.bool true))))) [.parr false (.int .u8 .nil) 1 3 (r0)]))])]
def frame_Parse_B (Gframe_Good_v1 : Int → Int → Int → (Nat → Nat → PV) → ((Nat → Nat → PV) → Option Out) → ((Nat → Nat → PV) → Option Out) → Option Out) : Hooks := []
theorem frame_Parse_eq (Gframe_Good_v1 : Int → Int → Int → (Nat → Nat → PV) → ((Nat → Nat → PV) → Option Out) → ((Nat → Nat → PV) → Option Out) → Option Out) (a_1 : Nat) (a_2 : Nat → Nat → PV) (k : FK) : runS tt (has eql) Try.prog.funcs 1152921504606846976 (frame_Parse_S Gframe_Good_v1) (frame_Parse_B Gframe_Good_v1) (has bor) 40 29 [.v (.c (.pre 0 17))] [.parr false (.int .u8 .nil) 1 a_1 (a_2)] k = frame_Parse_T Gframe_Good_v1 a_1 a_2 (fun r0 r1 => k (.tup [.agg [.pv (.val (.int .u64 0)), .pv (.val (.int .u64 0)), .pv (.val (.bool false)), .pv (.val (.int .i64 0)), .pv (.val (.int .i64 0)), .pv (.val (.int .i64 0)), .pv (.val (.slice none 0 0))], .c (.pv (.val (.int .i64 11)))]) [.parr false (.int .u8 .nil) 1 r0 (r1)]) (fun r0 r1 r2 r3 r4 r5 => k (.tup [.agg [.pv (.val (.int .u64 r0)), .pv (.val (.int .u64 r1)), .pv (.val (.bool false)), .pv (.val (.int .i64 0)), .pv (.val (.int .i64 0)), .pv (.val (.int .i64 r2)), .own 1], .c (.pv (.val (.int .i64 0)))]) [.parr false (.int .u8 .nil) 1 r3 (r4), .parr false (.int .u8 .nil) 1 3 (r5)]) := by kernel_rfl
def frame_Parse_p : PAr := ⟨[.v (.c (.pre 0 (.l 17)))], [.parr (.l false) (.int .u8 .nil) 1 .h]⟩
def frame_Parse_F (h : List Hole) (k : FK) : Option Out := frame_Parse (gN h 0) (gF h 1) (fun r0 r1 => k (.tup [.agg [.pv (.val (.int .u64 0)), .pv (.val (.int .u64 0)), .pv (.val (.bool false)), .pv (.val (.int .i64 0)), .pv (.val (.int .i64 0)), .pv (.val (.int .i64 0)), .pv (.val (.slice none 0 0))], .c (.pv (.val (.int .i64 11)))]) [.parr false (.int .u8 .nil) 1 r0 (r1)]) (fun r0 r1 r2 r3 r4 r5 => k (.tup [.agg [.pv (.val (.int .u64 r0)), .pv (.val (.int .u64 r1)), .pv (.val (.bool false)), .pv (.val (.int .i64 0)), .pv (.val (.int .i64 0)), .pv (.val (.int .i64 r2)), .own 1], .c (.pv (.val (.int .i64 0)))]) [.parr false (.int .u8 .nil) 1 r3 (r4), .parr false (.int .u8 .nil) 1 3 (r5)])
theorem frame_Parse_at (h : List Hole) : CallAt Try.prog 29 (arFill frame_Parse_p h).1 (arFill frame_Parse_p h).2 (frame_Parse_F h) := by
  have e : arFill frame_Parse_p h = ([.v (.c (.pre 0 17))], [.parr false (.int .u8 .nil) 1 (gN h 0) ((gF h 1))]) := by kernel_rfl
  rw [e]; exact callAt_of (runS_ok ttOk eqOk mixed (names_ok namesOk) (S := frame_Parse_S frame_Good_v1) (sums_cons yes25_ok (sums_cons (smOf_ok (alts_cons frame_Good_at (alts_cons frame_Good_v1_at alts_nil))) (sums_nil))) (B := frame_Parse_B frame_Good_v1) (hooks_nil) (has bor) 40) fun k => frame_Parse_eq frame_Good_v1 _ _ k
def e26 (x0 : Nat → Nat → PV) : Int := bits .or .i64 (shlI .i64 (IntKind.i64.wrap (numOf (x0 14 0))) 8) (IntKind.i64.wrap (numOf (x0 15 0)))
def e27 (x0 : Nat → Nat → PV) : Int := bits .or .i64 (shlI .i64 (IntKind.i64.wrap (numOf (x0 16 0))) 8) (IntKind.i64.wrap (numOf (x0 17 0)))
/- weirgate/frame.Good -/
def frame_Good_v2_T {α : Type} (Gmac_Group : Int → (Bool → Option α) → Option α) (Gframe_room : Bool → (Int → Option α) → Option α) (a_1 : Int) (a_2 : Int) (a_3 : Int) (a_4 : Int) (a_5 : Int) (a_6 : Nat) (a_7 : Nat → Nat → PV) (k0 : Bool → Nat → (Nat → Nat → PV) → Option α) : Option α := bif !((shrI .u64 a_1 48) == 0) then
  k0 false a_6 a_7
 else bif !((shrI .u64 a_2 48) == 0) then
  k0 false a_6 a_7
 else Gmac_Group a_2
  (fun r_8 => bif r_8 then
   k0 false a_6 a_7
  else bif decide (a_5 < 0) then
   k0 false a_6 a_7
  else bif decide (a_5 ≥ 65536) then
   k0 false a_6 a_7
  else bif (a_5 == 33024) then
   k0 false a_6 a_7
  else Gframe_room true
   (fun r_9 => bif decide ((a_6 : Int) > r_9) then
    k0 false a_6 a_7
   else bif decide (a_3 ≥ 0) then
    bif decide (a_3 < 8) then
     bif decide (a_4 ≥ 0) then
      k0 (decide (a_4 < 4096)) a_6 a_7
     else k0 false a_6 a_7
    else k0 false a_6 a_7
   else k0 false a_6 a_7))
def frame_Good_v2 {α : Type} (a_1 : Int) (a_2 : Int) (a_3 : Int) (a_4 : Int) (a_5 : Int) (a_6 : Nat) (a_7 : Nat → Nat → PV) (k0 : Bool → Nat → (Nat → Nat → PV) → Option α) : Option α := frame_Good_v2_T mac_Group frame_room a_1 a_2 a_3 a_4 a_5 a_6 a_7 k0
def frame_Good_v2_S (Gmac_Group : Int → (Bool → Option Out) → Option Out) (Gframe_room : Bool → (Int → Option Out) → Option Out) : List (Nat × Sm) := [(25, yes), (56, smOf [(mac_Group_p, fun h k => Gmac_Group (gI h 0) (fun r0 => k (.v (.c (.pv (.val (.bool r0))))) []))]), (76, smOf [(frame_room_p, fun h k => Gframe_room (gB h 0) (fun r0 => k (.v (.c (.pv (.val (.int .i64 r0))))) []))])]
def frame_Good_v2_B (Gmac_Group : Int → (Bool → Option Out) → Option Out) (Gframe_room : Bool → (Int → Option Out) → Option Out) : Hooks := []
theorem frame_Good_v2_eq (Gmac_Group : Int → (Bool → Option Out) → Option Out) (Gframe_room : Bool → (Int → Option Out) → Option Out) (a_1 : Int) (a_2 : Int) (a_3 : Int) (a_4 : Int) (a_5 : Int) (a_6 : Nat) (a_7 : Nat → Nat → PV) (k : FK) : runS tt (has eql) Try.prog.funcs 1152921504606846976 (frame_Good_v2_S Gmac_Group Gframe_room) (frame_Good_v2_B Gmac_Group Gframe_room) (has bor) 40 31 [.v (.agg [.pv (.val (.int .u64 a_1)), .pv (.val (.int .u64 a_2)), .pv (.val (.bool true)), .pv (.val (.int .i64 a_3)), .pv (.val (.int .i64 a_4)), .pv (.val (.int .i64 a_5)), .own 0])] [.parr false (.int .u8 .nil) 1 a_6 (a_7)] k = frame_Good_v2_T Gmac_Group Gframe_room a_1 a_2 a_3 a_4 a_5 a_6 a_7 (fun r0 r1 r2 => k (.v (.c (.pv (.val (.bool r0))))) [.parr false (.int .u8 .nil) 1 r1 (r2)]) := by kernel_rfl
def frame_Good_v2_p : PAr := ⟨[.v (.agg [.pv (.int .u64 .h), .pv (.int .u64 .h), .pv (.bool (.l true)), .pv (.int .i64 .h), .pv (.int .i64 .h), .pv (.int .i64 .h), .own 0])], [.parr (.l false) (.int .u8 .nil) 1 .h]⟩
def frame_Good_v2_F (h : List Hole) (k : FK) : Option Out := frame_Good_v2 (gI h 0) (gI h 1) (gI h 2) (gI h 3) (gI h 4) (gN h 5) (gF h 6) (fun r0 r1 r2 => k (.v (.c (.pv (.val (.bool r0))))) [.parr false (.int .u8 .nil) 1 r1 (r2)])
theorem frame_Good_v2_at (h : List Hole) : CallAt Try.prog 31 (arFill frame_Good_v2_p h).1 (arFill frame_Good_v2_p h).2 (frame_Good_v2_F h) := by
  have e : arFill frame_Good_v2_p h = ([.v (.agg [.pv (.val (.int .u64 (gI h 0))), .pv (.val (.int .u64 (gI h 1))), .pv (.val (.bool true)), .pv (.val (.int .i64 (gI h 2))), .pv (.val (.int .i64 (gI h 3))), .pv (.val (.int .i64 (gI h 4))), .own 0])], [.parr false (.int .u8 .nil) 1 (gN h 5) ((gF h 6))]) := by kernel_rfl
  rw [e]; exact callAt_of (runS_ok ttOk eqOk mixed (names_ok namesOk) (S := frame_Good_v2_S mac_Group frame_room) (sums_cons yes25_ok (sums_cons (smOf_ok (alts_cons mac_Group_at alts_nil)) (sums_cons (smOf_ok (alts_cons frame_room_at alts_nil)) (sums_nil)))) (B := frame_Good_v2_B mac_Group frame_room) (hooks_nil) (has bor) 40) fun k => frame_Good_v2_eq mac_Group frame_room _ _ _ _ _ _ _ k
/- weirgate/frame.Good -/
def frame_Good_v3_T {α : Type} (Gmac_Group : Int → (Bool → Option α) → Option α) (Gframe_room : Bool → (Int → Option α) → Option α) (a_1 : Int) (a_2 : Int) (a_3 : Int) (a_4 : Nat) (a_5 : Nat → Nat → PV) (k0 : Nat → (Nat → Nat → PV) → Option α) (k1 : Nat → (Nat → Nat → PV) → Option α) : Option α := bif !((shrI .u64 a_1 48) == 0) then
  k0 a_4 a_5
 else bif !((shrI .u64 a_2 48) == 0) then
  k0 a_4 a_5
 else Gmac_Group a_2
  (fun r_6 => bif r_6 then
   k0 a_4 a_5
  else bif decide (a_3 < 0) then
   k0 a_4 a_5
  else bif decide (a_3 ≥ 65536) then
   k0 a_4 a_5
  else bif (a_3 == 33024) then
   k0 a_4 a_5
  else Gframe_room false
   (fun r_7 => bif decide ((a_4 : Int) > r_7) then
    k0 a_4 a_5
   else k1 a_4 a_5))
def frame_Good_v3 {α : Type} (a_1 : Int) (a_2 : Int) (a_3 : Int) (a_4 : Nat) (a_5 : Nat → Nat → PV) (k0 : Nat → (Nat → Nat → PV) → Option α) (k1 : Nat → (Nat → Nat → PV) → Option α) : Option α := frame_Good_v3_T mac_Group frame_room a_1 a_2 a_3 a_4 a_5 k0 k1
def frame_Good_v3_S (Gmac_Group : Int → (Bool → Option Out) → Option Out) (Gframe_room : Bool → (Int → Option Out) → Option Out) : List (Nat × Sm) := [(25, yes), (56, smOf [(mac_Group_p, fun h k => Gmac_Group (gI h 0) (fun r0 => k (.v (.c (.pv (.val (.bool r0))))) []))]), (76, smOf [(frame_room_p, fun h k => Gframe_room (gB h 0) (fun r0 => k (.v (.c (.pv (.val (.int .i64 r0))))) []))])]
def frame_Good_v3_B (Gmac_Group : Int → (Bool → Option Out) → Option Out) (Gframe_room : Bool → (Int → Option Out) → Option Out) : Hooks := []
theorem frame_Good_v3_eq (Gmac_Group : Int → (Bool → Option Out) → Option Out) (Gframe_room : Bool → (Int → Option Out) → Option Out) (a_1 : Int) (a_2 : Int) (a_3 : Int) (a_4 : Nat) (a_5 : Nat → Nat → PV) (k : FK) : runS tt (has eql) Try.prog.funcs 1152921504606846976 (frame_Good_v3_S Gmac_Group Gframe_room) (frame_Good_v3_B Gmac_Group Gframe_room) (has bor) 40 31 [.v (.agg [.pv (.val (.int .u64 a_1)), .pv (.val (.int .u64 a_2)), .pv (.val (.bool false)), .pv (.val (.int .i64 0)), .pv (.val (.int .i64 0)), .pv (.val (.int .i64 a_3)), .own 0])] [.parr false (.int .u8 .nil) 1 a_4 (a_5)] k = frame_Good_v3_T Gmac_Group Gframe_room a_1 a_2 a_3 a_4 a_5 (fun r0 r1 => k (.v (.c (.pv (.val (.bool false))))) [.parr false (.int .u8 .nil) 1 r0 (r1)]) (fun r0 r1 => k (.v (.c (.pv (.val (.bool true))))) [.parr false (.int .u8 .nil) 1 r0 (r1)]) := by kernel_rfl
def frame_Good_v3_p : PAr := ⟨[.v (.agg [.pv (.int .u64 .h), .pv (.int .u64 .h), .pv (.bool (.l false)), .pv (.int .i64 (.l 0)), .pv (.int .i64 (.l 0)), .pv (.int .i64 .h), .own 0])], [.parr (.l false) (.int .u8 .nil) 1 .h]⟩
def frame_Good_v3_F (h : List Hole) (k : FK) : Option Out := frame_Good_v3 (gI h 0) (gI h 1) (gI h 2) (gN h 3) (gF h 4) (fun r0 r1 => k (.v (.c (.pv (.val (.bool false))))) [.parr false (.int .u8 .nil) 1 r0 (r1)]) (fun r0 r1 => k (.v (.c (.pv (.val (.bool true))))) [.parr false (.int .u8 .nil) 1 r0 (r1)])
theorem frame_Good_v3_at (h : List Hole) : CallAt Try.prog 31 (arFill frame_Good_v3_p h).1 (arFill frame_Good_v3_p h).2 (frame_Good_v3_F h) := by
  have e : arFill frame_Good_v3_p h = ([.v (.agg [.pv (.val (.int .u64 (gI h 0))), .pv (.val (.int .u64 (gI h 1))), .pv (.val (.bool false)), .pv (.val (.int .i64 0)), .pv (.val (.int .i64 0)), .pv (.val (.int .i64 (gI h 2))), .own 0])], [.parr false (.int .u8 .nil) 1 (gN h 3) ((gF h 4))]) := by kernel_rfl
  rw [e]; exact callAt_of (runS_ok ttOk eqOk mixed (names_ok namesOk) (S := frame_Good_v3_S mac_Group frame_room) (sums_cons yes25_ok (sums_cons (smOf_ok (alts_cons mac_Group_at alts_nil)) (sums_cons (smOf_ok (alts_cons frame_room_at alts_nil)) (sums_nil)))) (B := frame_Good_v3_B mac_Group frame_room) (hooks_nil) (has bor) 40) fun k => frame_Good_v3_eq mac_Group frame_room _ _ _ _ _ k
/- weirgate/frame.Parse -/
def frame_Parse_v1_T {α : Type} (Gframe_Good_v2 : Int → Int → Int → Int → Int → Nat → (Nat → Nat → PV) → (Bool → Nat → (Nat → Nat → PV) → Option α) → Option α) (Gframe_Good_v3 : Int → Int → Int → Nat → (Nat → Nat → PV) → (Nat → (Nat → Nat → PV) → Option α) → (Nat → (Nat → Nat → PV) → Option α) → Option α) (a_1 : Nat) (a_2 : Nat → Nat → PV) (k0 : Nat → (Nat → Nat → PV) → Option α) (k1 : Int → Int → Int → Int → Int → Nat → (Nat → Nat → PV) → Nat → (Nat → Nat → PV) → Option α) (k2 : Int → Int → Int → Nat → (Nat → Nat → PV) → Nat → (Nat → Nat → PV) → Option α) : Option α := bif decide ((a_1 : Int) < 14) then
  k0 a_1 a_2
 else bif inb 6 (a_1 + 1) then
  bif inb 12 (a_1 + 1) then
   bif inb (a_1 : Int) (a_1 + 1) then
    bif decide (12 ≤ (a_1 : Int)) then
     bif inb 0 (a_1 - 12) then
      bif inb 1 (a_1 - 12) then
       bif ((e25 a_2) == 33024) then
        bif decide (((a_1 - 12 : Nat) : Int) < 6) then
         k0 a_1 a_2
        else bif inb ((a_1 - 12 : Nat) : Int) ((a_1 - 12) + 1) then
         bif decide (2 ≤ ((a_1 - 12 : Nat) : Int)) then
          bif inb 0 ((a_1 - 12) - 2) then
           bif inb 1 ((a_1 - 12) - 2) then
            bif inb ((a_1 - 12 : Nat) : Int) ((a_1 - 12) + 1) then
             bif decide (4 ≤ ((a_1 - 12 : Nat) : Int)) then
              bif inb 0 ((a_1 - 12) - 4) then
               bif inb 1 ((a_1 - 12) - 4) then
                bif inb (((a_1 - 12) - 4 : Nat) : Int) (((a_1 - 12) - 4) + 1) then
                 bif decide (2 ≤ (((a_1 - 12) - 4 : Nat) : Int)) then
                  bif Nat.ble ((0 + (((a_1 - 12) - 4) - 2)) * 1) bound then
                   Gframe_Good_v2 (e21 a_2) (e24 a_2) (shrI .i64 (e26 a_2) 13) (bits .and .i64 (e26 a_2) 8191) (e27 a_2) (0 + (((a_1 - 12) - 4) - 2)) (catf 0 (rowOf 1 []) (fun j c => (a_2) (18 + j) c))
                    (fun r_3 r_4 r_5 => bif !r_3 then
                     k0 a_1 a_2
                    else k1 (e21 a_2) (e24 a_2) (shrI .i64 (e26 a_2) 13) (bits .and .i64 (e26 a_2) 8191) (e27 a_2) a_1 a_2 r_4 r_5)
                  else none /- test -/
                 else none /- test -/
                else none /- test -/
               else none /- test -/
              else none /- test -/
             else none /- test -/
            else none /- test -/
           else none /- test -/
          else none /- test -/
         else none /- test -/
        else none /- test -/
       else bif inb 0 (a_1 - 12) then
        bif inb 1 (a_1 - 12) then
         bif inb ((a_1 - 12 : Nat) : Int) ((a_1 - 12) + 1) then
          bif decide (2 ≤ ((a_1 - 12 : Nat) : Int)) then
           bif Nat.ble ((0 + ((a_1 - 12) - 2)) * 1) bound then
            Gframe_Good_v3 (e21 a_2) (e24 a_2) (e25 a_2) (0 + ((a_1 - 12) - 2)) (catf 0 (rowOf 1 []) (fun j c => (a_2) (14 + j) c))
             (fun r_3 r_4 => k0 a_1 a_2)
             (fun r_3 r_4 => k2 (e21 a_2) (e24 a_2) (e25 a_2) a_1 a_2 r_3 r_4)
           else none /- test -/
          else none /- test -/
         else none /- test -/
        else none /- test -/
       else none /- test -/
      else none /- test -/
     else none /- test -/
    else none /- test -/
   else none /- test -/
  else none /- test -/
 else none /- test -/
def frame_Parse_v1 {α : Type} (a_1 : Nat) (a_2 : Nat → Nat → PV) (k0 : Nat → (Nat → Nat → PV) → Option α) (k1 : Int → Int → Int → Int → Int → Nat → (Nat → Nat → PV) → Nat → (Nat → Nat → PV) → Option α) (k2 : Int → Int → Int → Nat → (Nat → Nat → PV) → Nat → (Nat → Nat → PV) → Option α) : Option α := frame_Parse_v1_T frame_Good_v2 frame_Good_v3 a_1 a_2 k0 k1 k2
def frame_Parse_v1_S (Gframe_Good_v2 : Int → Int → Int → Int → Int → Nat → (Nat → Nat → PV) → (Bool → Nat → (Nat → Nat → PV) → Option Out) → Option Out) (Gframe_Good_v3 : Int → Int → Int → Nat → (Nat → Nat → PV) → (Nat → (Nat → Nat → PV) → Option Out) → (Nat → (Nat → Nat → PV) → Option Out) → Option Out) : List (Nat × Sm) := [(25, yes), (31, smOf [(frame_Good_p, frame_Good_F), (frame_Good_v3_p, fun h k => Gframe_Good_v3 (gI h 0) (gI h 1) (gI h 2) (gN h 3) (gF h 4) (fun r0 r1 => k (.v (.c (.pv (.val (.bool false))))) [.parr false (.int .u8 .nil) 1 r0 (r1)]) (fun r0 r1 => k (.v (.c (.pv (.val (.bool true))))) [.parr false (.int .u8 .nil) 1 r0 (r1)])), (frame_Good_v1_p, frame_Good_v1_F), (frame_Good_v2_p, fun h k => Gframe_Good_v2 (gI h 0) (gI h 1) (gI h 2) (gI h 3) (gI h 4) (gN h 5) (gF h 6) (fun r0 r1 r2 => k (.v (.c (.pv (.val (.bool r0))))) [.parr false (.int .u8 .nil) 1 r1 (r2)]))])]
def frame_Parse_v1_B (Gframe_Good_v2 : Int → Int → Int → Int → Int → Nat → (Nat → Nat → PV) → (Bool → Nat → (Nat → Nat → PV) → Option Out) → Option Out) (Gframe_Good_v3 : Int → Int → Int → Nat → (Nat → Nat → PV) → (Nat → (Nat → Nat → PV) → Option Out) → (Nat → (Nat → Nat → PV) → Option Out) → Option Out) : Hooks := []
theorem frame_Parse_v1_eq (Gframe_Good_v2 : Int → Int → Int → Int → Int → Nat → (Nat → Nat → PV) → (Bool → Nat → (Nat → Nat → PV) → Option Out) → Option Out) (Gframe_Good_v3 : Int → Int → Int → Nat → (Nat → Nat → PV) → (Nat → (Nat → Nat → PV) → Option Out) → (Nat → (Nat → Nat → PV) → Option Out) → Option Out) (a_1 : Nat) (a_2 : Nat → Nat → PV) (k : FK) : runS tt (has eql) Try.prog.funcs 1152921504606846976 (frame_Parse_v1_S Gframe_Good_v2 Gframe_Good_v3) (frame_Parse_v1_B Gframe_Good_v2 Gframe_Good_v3) (has bor) 40 29 [.v (.c (.own 0))] [.parr false (.int .u8 .nil) 1 a_1 (a_2)] k = frame_Parse_v1_T Gframe_Good_v2 Gframe_Good_v3 a_1 a_2 (fun r0 r1 => k (.tup [.agg [.pv (.val (.int .u64 0)), .pv (.val (.int .u64 0)), .pv (.val (.bool false)), .pv (.val (.int .i64 0)), .pv (.val (.int .i64 0)), .pv (.val (.int .i64 0)), .pv (.val (.slice none 0 0))], .c (.pv (.val (.int .i64 11)))]) [.parr false (.int .u8 .nil) 1 r0 (r1)]) (fun r0 r1 r2 r3 r4 r5 r6 r7 r8 => k (.tup [.agg [.pv (.val (.int .u64 r0)), .pv (.val (.int .u64 r1)), .pv (.val (.bool true)), .pv (.val (.int .i64 r2)), .pv (.val (.int .i64 r3)), .pv (.val (.int .i64 r4)), .own 1], .c (.pv (.val (.int .i64 0)))]) [.parr false (.int .u8 .nil) 1 r5 (r6), .parr false (.int .u8 .nil) 1 r7 (r8)]) (fun r0 r1 r2 r3 r4 r5 r6 => k (.tup [.agg [.pv (.val (.int .u64 r0)), .pv (.val (.int .u64 r1)), .pv (.val (.bool false)), .pv (.val (.int .i64 0)), .pv (.val (.int .i64 0)), .pv (.val (.int .i64 r2)), .own 1], .c (.pv (.val (.int .i64 0)))]) [.parr false (.int .u8 .nil) 1 r3 (r4), .parr false (.int .u8 .nil) 1 r5 (r6)]) := by kernel_rfl
def frame_Parse_v1_p : PAr := ⟨[.v (.c (.own 0))], [.parr (.l false) (.int .u8 .nil) 1 .h]⟩
def frame_Parse_v1_F (h : List Hole) (k : FK) : Option Out := frame_Parse_v1 (gN h 0) (gF h 1) (fun r0 r1 => k (.tup [.agg [.pv (.val (.int .u64 0)), .pv (.val (.int .u64 0)), .pv (.val (.bool false)), .pv (.val (.int .i64 0)), .pv (.val (.int .i64 0)), .pv (.val (.int .i64 0)), .pv (.val (.slice none 0 0))], .c (.pv (.val (.int .i64 11)))]) [.parr false (.int .u8 .nil) 1 r0 (r1)]) (fun r0 r1 r2 r3 r4 r5 r6 r7 r8 => k (.tup [.agg [.pv (.val (.int .u64 r0)), .pv (.val (.int .u64 r1)), .pv (.val (.bool true)), .pv (.val (.int .i64 r2)), .pv (.val (.int .i64 r3)), .pv (.val (.int .i64 r4)), .own 1], .c (.pv (.val (.int .i64 0)))]) [.parr false (.int .u8 .nil) 1 r5 (r6), .parr false (.int .u8 .nil) 1 r7 (r8)]) (fun r0 r1 r2 r3 r4 r5 r6 => k (.tup [.agg [.pv (.val (.int .u64 r0)), .pv (.val (.int .u64 r1)), .pv (.val (.bool false)), .pv (.val (.int .i64 0)), .pv (.val (.int .i64 0)), .pv (.val (.int .i64 r2)), .own 1], .c (.pv (.val (.int .i64 0)))]) [.parr false (.int .u8 .nil) 1 r3 (r4), .parr false (.int .u8 .nil) 1 r5 (r6)])
theorem frame_Parse_v1_at (h : List Hole) : CallAt Try.prog 29 (arFill frame_Parse_v1_p h).1 (arFill frame_Parse_v1_p h).2 (frame_Parse_v1_F h) := by
  have e : arFill frame_Parse_v1_p h = ([.v (.c (.own 0))], [.parr false (.int .u8 .nil) 1 (gN h 0) ((gF h 1))]) := by kernel_rfl
  rw [e]; exact callAt_of (runS_ok ttOk eqOk mixed (names_ok namesOk) (S := frame_Parse_v1_S frame_Good_v2 frame_Good_v3) (sums_cons yes25_ok (sums_cons (smOf_ok (alts_cons frame_Good_at (alts_cons frame_Good_v3_at (alts_cons frame_Good_v1_at (alts_cons frame_Good_v2_at alts_nil))))) (sums_nil))) (B := frame_Parse_v1_B frame_Good_v2 frame_Good_v3) (hooks_nil) (has bor) 40) fun k => frame_Parse_v1_eq frame_Good_v2 frame_Good_v3 _ _ k
def e28 (x0 : Nat) (x1 : Nat → Nat → PV) (x2 : Nat) (x3 : Nat) (x4 : Nat → Nat → PV) (x5 : Nat → Nat → PV) : Bool := ((strOf x0 (x1)).toList == (strOf ((0 + x2) + x3) (catf (0 + x2) (catf 0 (rowOf 1 []) (x4)) (x5))).toList)
/- weirgate/weirgatelaw10.FrameSizes -/
def law10_FrameSizes_T {α : Type} (Gframe_Encode : Int → Int → Bool → Int → Int → Int → Bool → Nat → (Nat → Nat → PV) → (Option α) → (Option α) → (Nat → (Nat → Nat → PV) → Option α) → Option α) (Gframe_Parse : Nat → (Nat → Nat → PV) → (Nat → (Nat → Nat → PV) → Option α) → (Int → Int → Int → Nat → (Nat → Nat → PV) → (Nat → Nat → PV) → Option α) → Option α) (Gframe_Parse_v1 : Nat → (Nat → Nat → PV) → (Nat → (Nat → Nat → PV) → Option α) → (Int → Int → Int → Int → Int → Nat → (Nat → Nat → PV) → Nat → (Nat → Nat → PV) → Option α) → (Int → Int → Int → Nat → (Nat → Nat → PV) → Nat → (Nat → Nat → PV) → Option α) → Option α) (a_1 : Int) (a_2 : Int) (a_3 : Bool) (a_4 : Int) (a_5 : Int) (a_6 : Int) (a_7 : Bool) (a_8 : Nat) (a_9 : Nat → Nat → PV) (a_10 : Bool) (a_11 : Nat) (a_12 : Nat → Nat → PV) (k0 : Option α) (k1 : Option α) : Option α := bif decide ((a_8 : Int) > 2000) then
  k0
 else bif decide ((a_11 : Int) > 100) then
  k0
 else Gframe_Encode a_1 a_2 a_3 a_4 a_5 a_6 a_7 a_8 a_9
  (k0)
  (bif a_3 then
   bif (0 != (IntKind.i64.wrap (18 + (a_8 : Int)))) then
    k1
   else none /- test -/
  else bif (0 != (IntKind.i64.wrap (14 + (a_8 : Int)))) then
   k1
  else none /- test -/)
  (fun r_13 r_14 => bif a_3 then
   bif ((r_13 : Int) != (IntKind.i64.wrap (18 + (a_8 : Int)))) then
    k1
   else bif inb 17 (r_13 + 1) then
    Gframe_Parse r_13 r_14
     (fun r_15 r_16 => bif Nat.ble ((0 + r_15) * 1) bound then
      bif Nat.ble (((0 + r_15) + a_11) * 1) bound then
       Gframe_Parse_v1 ((0 + r_15) + a_11) (catf (0 + r_15) (catf 0 (rowOf 1 []) (r_16)) (a_12))
        (fun r_17 r_18 => bif decide ((IntKind.i64.wrap ((a_8 : Int) + (a_11 : Int))) > 1500) then
         k0
        else k1)
        (fun r_17 r_18 r_19 r_20 r_21 r_22 r_23 r_24 r_25 => bif decide ((IntKind.i64.wrap ((a_8 : Int) + (a_11 : Int))) > 1500) then
         k1
        else bif Nat.ble ((0 + a_8) * 1) bound then
         bif Nat.ble (((0 + a_8) + a_11) * 1) bound then
          bif e28 r_24 r_25 a_8 a_11 a_9 a_12 then
           bif (r_18 == a_2) then
            k0
           else k1
          else k1
         else none /- test -/
        else none /- test -/)
        (fun r_17 r_18 r_19 r_20 r_21 r_22 r_23 => bif decide ((IntKind.i64.wrap ((a_8 : Int) + (a_11 : Int))) > 1500) then
         k1
        else bif Nat.ble ((0 + a_8) * 1) bound then
         bif Nat.ble (((0 + a_8) + a_11) * 1) bound then
          bif e28 r_22 r_23 a_8 a_11 a_9 a_12 then
           bif (r_18 == a_2) then
            k0
           else k1
          else k1
         else none /- test -/
        else none /- test -/)
      else none /- test -/
     else none /- test -/)
     (fun r_15 r_16 r_17 r_18 r_19 r_20 => bif Nat.ble ((0 + r_18) * 1) bound then
      bif Nat.ble (((0 + r_18) + a_11) * 1) bound then
       Gframe_Parse_v1 ((0 + r_18) + a_11) (catf (0 + r_18) (catf 0 (rowOf 1 []) (r_19)) (a_12))
        (fun r_21 r_22 => k1)
        (fun r_21 r_22 r_23 r_24 r_25 r_26 r_27 r_28 r_29 => k1)
        (fun r_21 r_22 r_23 r_24 r_25 r_26 r_27 => k1)
      else none /- test -/
     else none /- test -/)
   else none /- test -/
  else bif ((r_13 : Int) != (IntKind.i64.wrap (14 + (a_8 : Int)))) then
   k1
  else bif inb 13 (r_13 + 1) then
   bif Nat.ble ((0 + r_13) * 1) bound then
    bif Nat.ble (((0 + r_13) + a_11) * 1) bound then
     Gframe_Parse_v1 ((0 + r_13) + a_11) (catf (0 + r_13) (catf 0 (rowOf 1 []) (r_14)) (a_12))
      (fun r_15 r_16 => bif decide ((IntKind.i64.wrap ((a_8 : Int) + (a_11 : Int))) > 1504) then
       k0
      else k1)
      (fun r_15 r_16 r_17 r_18 r_19 r_20 r_21 r_22 r_23 => bif decide ((IntKind.i64.wrap ((a_8 : Int) + (a_11 : Int))) > 1504) then
       k1
      else bif Nat.ble ((0 + a_8) * 1) bound then
       bif Nat.ble (((0 + a_8) + a_11) * 1) bound then
        bif e28 r_22 r_23 a_8 a_11 a_9 a_12 then
         bif (r_16 == a_2) then
          k0
         else k1
        else k1
       else none /- test -/
      else none /- test -/)
      (fun r_15 r_16 r_17 r_18 r_19 r_20 r_21 => bif decide ((IntKind.i64.wrap ((a_8 : Int) + (a_11 : Int))) > 1504) then
       k1
      else bif Nat.ble ((0 + a_8) * 1) bound then
       bif Nat.ble (((0 + a_8) + a_11) * 1) bound then
        bif e28 r_20 r_21 a_8 a_11 a_9 a_12 then
         bif (r_16 == a_2) then
          k0
         else k1
        else k1
       else none /- test -/
      else none /- test -/)
    else none /- test -/
   else none /- test -/
  else none /- test -/)
def law10_FrameSizes {α : Type} (a_1 : Int) (a_2 : Int) (a_3 : Bool) (a_4 : Int) (a_5 : Int) (a_6 : Int) (a_7 : Bool) (a_8 : Nat) (a_9 : Nat → Nat → PV) (a_10 : Bool) (a_11 : Nat) (a_12 : Nat → Nat → PV) (k0 : Option α) (k1 : Option α) : Option α := law10_FrameSizes_T frame_Encode frame_Parse frame_Parse_v1 a_1 a_2 a_3 a_4 a_5 a_6 a_7 a_8 a_9 a_10 a_11 a_12 k0 k1
def law10_FrameSizes_S (Gframe_Encode : Int → Int → Bool → Int → Int → Int → Bool → Nat → (Nat → Nat → PV) → (Option Out) → (Option Out) → (Nat → (Nat → Nat → PV) → Option Out) → Option Out) (Gframe_Parse : Nat → (Nat → Nat → PV) → (Nat → (Nat → Nat → PV) → Option Out) → (Int → Int → Int → Nat → (Nat → Nat → PV) → (Nat → Nat → PV) → Option Out) → Option Out) (Gframe_Parse_v1 : Nat → (Nat → Nat → PV) → (Nat → (Nat → Nat → PV) → Option Out) → (Int → Int → Int → Int → Int → Nat → (Nat → Nat → PV) → Nat → (Nat → Nat → PV) → Option Out) → (Int → Int → Int → Nat → (Nat → Nat → PV) → Nat → (Nat → Nat → PV) → Option Out) → Option Out) : List (Nat × Sm) := [(25, yes), (26, smOf [(frame_Encode_p, fun h k => Gframe_Encode (gI h 0) (gI h 1) (gB h 2) (gI h 3) (gI h 4) (gI h 5) (gB h 6) (gN h 7) (gF h 8) (k (.tup [.c (.pv (.val (.slice none 0 0))), .c (.pv (.val (.int .i64 11)))]) []) (k (.tup [.c (.pv (.val (.slice none 0 0))), .c (.pv (.val (.int .i64 0)))]) []) (fun r0 r1 => k (.tup [.c (.own 0), .c (.pv (.val (.int .i64 0)))]) [.parr false (.int .u8 .nil) 1 r0 (r1)]))]), (29, smOf [(frame_Parse_p, fun h k => Gframe_Parse (gN h 0) (gF h 1) (fun r0 r1 => k (.tup [.agg [.pv (.val (.int .u64 0)), .pv (.val (.int .u64 0)), .pv (.val (.bool false)), .pv (.val (.int .i64 0)), .pv (.val (.int .i64 0)), .pv (.val (.int .i64 0)), .pv (.val (.slice none 0 0))], .c (.pv (.val (.int .i64 11)))]) [.parr false (.int .u8 .nil) 1 r0 (r1)]) (fun r0 r1 r2 r3 r4 r5 => k (.tup [.agg [.pv (.val (.int .u64 r0)), .pv (.val (.int .u64 r1)), .pv (.val (.bool false)), .pv (.val (.int .i64 0)), .pv (.val (.int .i64 0)), .pv (.val (.int .i64 r2)), .own 1], .c (.pv (.val (.int .i64 0)))]) [.parr false (.int .u8 .nil) 1 r3 (r4), .parr false (.int .u8 .nil) 1 3 (r5)])), (frame_Parse_v1_p, fun h k => Gframe_Parse_v1 (gN h 0) (gF h 1) (fun r0 r1 => k (.tup [.agg [.pv (.val (.int .u64 0)), .pv (.val (.int .u64 0)), .pv (.val (.bool false)), .pv (.val (.int .i64 0)), .pv (.val (.int .i64 0)), .pv (.val (.int .i64 0)), .pv (.val (.slice none 0 0))], .c (.pv (.val (.int .i64 11)))]) [.parr false (.int .u8 .nil) 1 r0 (r1)]) (fun r0 r1 r2 r3 r4 r5 r6 r7 r8 => k (.tup [.agg [.pv (.val (.int .u64 r0)), .pv (.val (.int .u64 r1)), .pv (.val (.bool true)), .pv (.val (.int .i64 r2)), .pv (.val (.int .i64 r3)), .pv (.val (.int .i64 r4)), .own 1], .c (.pv (.val (.int .i64 0)))]) [.parr false (.int .u8 .nil) 1 r5 (r6), .parr false (.int .u8 .nil) 1 r7 (r8)]) (fun r0 r1 r2 r3 r4 r5 r6 => k (.tup [.agg [.pv (.val (.int .u64 r0)), .pv (.val (.int .u64 r1)), .pv (.val (.bool false)), .pv (.val (.int .i64 0)), .pv (.val (.int .i64 0)), .pv (.val (.int .i64 r2)), .own 1], .c (.pv (.val (.int .i64 0)))]) [.parr false (.int .u8 .nil) 1 r3 (r4), .parr false (.int .u8 .nil) 1 r5 (r6)]))])]
def law10_FrameSizes_B (Gframe_Encode : Int → Int → Bool → Int → Int → Int → Bool → Nat → (Nat → Nat → PV) → (Option Out) → (Option Out) → (Nat → (Nat → Nat → PV) → Option Out) → Option Out) (Gframe_Parse : Nat → (Nat → Nat → PV) → (Nat → (Nat → Nat → PV) → Option Out) → (Int → Int → Int → Nat → (Nat → Nat → PV) → (Nat → Nat → PV) → Option Out) → Option Out) (Gframe_Parse_v1 : Nat → (Nat → Nat → PV) → (Nat → (Nat → Nat → PV) → Option Out) → (Int → Int → Int → Int → Int → Nat → (Nat → Nat → PV) → Nat → (Nat → Nat → PV) → Option Out) → (Int → Int → Int → Nat → (Nat → Nat → PV) → Nat → (Nat → Nat → PV) → Option Out) → Option Out) : Hooks := []
theorem law10_FrameSizes_eq (Gframe_Encode : Int → Int → Bool → Int → Int → Int → Bool → Nat → (Nat → Nat → PV) → (Option Out) → (Option Out) → (Nat → (Nat → Nat → PV) → Option Out) → Option Out) (Gframe_Parse : Nat → (Nat → Nat → PV) → (Nat → (Nat → Nat → PV) → Option Out) → (Int → Int → Int → Nat → (Nat → Nat → PV) → (Nat → Nat → PV) → Option Out) → Option Out) (Gframe_Parse_v1 : Nat → (Nat → Nat → PV) → (Nat → (Nat → Nat → PV) → Option Out) → (Int → Int → Int → Int → Int → Nat → (Nat → Nat → PV) → Nat → (Nat → Nat → PV) → Option Out) → (Int → Int → Int → Nat → (Nat → Nat → PV) → Nat → (Nat → Nat → PV) → Option Out) → Option Out) (a_1 : Int) (a_2 : Int) (a_3 : Bool) (a_4 : Int) (a_5 : Int) (a_6 : Int) (a_7 : Bool) (a_8 : Nat) (a_9 : Nat → Nat → PV) (a_10 : Bool) (a_11 : Nat) (a_12 : Nat → Nat → PV) (k : FK) : runS tt (has eql) Try.prog.funcs 1152921504606846976 (law10_FrameSizes_S Gframe_Encode Gframe_Parse Gframe_Parse_v1) (law10_FrameSizes_B Gframe_Encode Gframe_Parse Gframe_Parse_v1) (has bor) 40 8 [.v (.agg [.pv (.val (.int .u64 a_1)), .pv (.val (.int .u64 a_2)), .pv (.val (.bool a_3)), .pv (.val (.int .i64 a_4)), .pv (.val (.int .i64 a_5)), .pv (.val (.int .i64 a_6)), .pv (.sl a_7 (.int .u8 .nil) 1 a_8 (a_9))]), .v (.c (.pv (.sl a_10 (.int .u8 .nil) 1 a_11 (a_12))))] [] k = law10_FrameSizes_T Gframe_Encode Gframe_Parse Gframe_Parse_v1 a_1 a_2 a_3 a_4 a_5 a_6 a_7 a_8 a_9 a_10 a_11 a_12 (k (.v (.c (.pv (.val (.bool true))))) []) (k (.v (.c (.pv (.val (.bool false))))) []) := by kernel_rfl
def law10_FrameSizes_p : PAr := ⟨[.v (.agg [.pv (.int .u64 .h), .pv (.int .u64 .h), .pv (.bool .h), .pv (.int .i64 .h), .pv (.int .i64 .h), .pv (.int .i64 .h), .pv (.sl .h (.int .u8 .nil) 1 .h)]), .v (.c (.pv (.sl .h (.int .u8 .nil) 1 .h)))], []⟩
def law10_FrameSizes_F (h : List Hole) (k : FK) : Option Out := law10_FrameSizes (gI h 0) (gI h 1) (gB h 2) (gI h 3) (gI h 4) (gI h 5) (gB h 6) (gN h 7) (gF h 8) (gB h 9) (gN h 10) (gF h 11) (k (.v (.c (.pv (.val (.bool true))))) []) (k (.v (.c (.pv (.val (.bool false))))) [])
theorem law10_FrameSizes_at (h : List Hole) : CallAt Try.prog 8 (arFill law10_FrameSizes_p h).1 (arFill law10_FrameSizes_p h).2 (law10_FrameSizes_F h) := by
  have e : arFill law10_FrameSizes_p h = ([.v (.agg [.pv (.val (.int .u64 (gI h 0))), .pv (.val (.int .u64 (gI h 1))), .pv (.val (.bool (gB h 2))), .pv (.val (.int .i64 (gI h 3))), .pv (.val (.int .i64 (gI h 4))), .pv (.val (.int .i64 (gI h 5))), .pv (.sl (gB h 6) (.int .u8 .nil) 1 (gN h 7) ((gF h 8)))]), .v (.c (.pv (.sl (gB h 9) (.int .u8 .nil) 1 (gN h 10) ((gF h 11)))))], []) := by kernel_rfl
  rw [e]; exact callAt_of (runS_ok ttOk eqOk mixed (names_ok namesOk) (S := law10_FrameSizes_S frame_Encode frame_Parse frame_Parse_v1) (sums_cons yes25_ok (sums_cons (smOf_ok (alts_cons frame_Encode_at alts_nil)) (sums_cons (smOf_ok (alts_cons frame_Parse_at (alts_cons frame_Parse_v1_at alts_nil))) (sums_nil)))) (B := law10_FrameSizes_B frame_Encode frame_Parse frame_Parse_v1) (hooks_nil) (has bor) 40) fun k => law10_FrameSizes_eq frame_Encode frame_Parse frame_Parse_v1 _ _ _ _ _ _ _ _ _ _ _ _ k
theorem call_ok : CallSem Try.prog (runS tt (has eql) Try.prog.funcs 1152921504606846976 (law10_FrameSizes_S frame_Encode frame_Parse frame_Parse_v1) (law10_FrameSizes_B frame_Encode frame_Parse frame_Parse_v1) (has bor) 40) := runS_ok ttOk eqOk mixed (names_ok namesOk) (S := law10_FrameSizes_S frame_Encode frame_Parse frame_Parse_v1) (sums_cons yes25_ok (sums_cons (smOf_ok (alts_cons frame_Encode_at alts_nil)) (sums_cons (smOf_ok (alts_cons frame_Parse_at (alts_cons frame_Parse_v1_at alts_nil))) (sums_nil)))) (B := law10_FrameSizes_B frame_Encode frame_Parse frame_Parse_v1) (hooks_nil) (has bor) 40
theorem law_eq (a_1 : Int) (a_2 : Int) (a_3 : Bool) (a_4 : Int) (a_5 : Int) (a_6 : Int) (a_7 : Bool) (a_8 : Nat) (a_9 : Nat → Nat → PV) (a_10 : Bool) (a_11 : Nat) (a_12 : Nat → Nat → PV) (k : FK) : runS tt (has eql) Try.prog.funcs 1152921504606846976 (law10_FrameSizes_S frame_Encode frame_Parse frame_Parse_v1) (law10_FrameSizes_B frame_Encode frame_Parse frame_Parse_v1) (has bor) 40 8 [.v (.agg [.pv (.val (.int .u64 a_1)), .pv (.val (.int .u64 a_2)), .pv (.val (.bool a_3)), .pv (.val (.int .i64 a_4)), .pv (.val (.int .i64 a_5)), .pv (.val (.int .i64 a_6)), .pv (.sl a_7 (.int .u8 .nil) 1 a_8 (a_9))]), .v (.c (.pv (.sl a_10 (.int .u8 .nil) 1 a_11 (a_12))))] [] k = law10_FrameSizes a_1 a_2 a_3 a_4 a_5 a_6 a_7 a_8 a_9 a_10 a_11 a_12 (k (.v (.c (.pv (.val (.bool true))))) []) (k (.v (.c (.pv (.val (.bool false))))) []) := law10_FrameSizes_eq frame_Encode frame_Parse frame_Parse_v1 a_1 a_2 a_3 a_4 a_5 a_6 a_7 a_8 a_9 a_10 a_11 a_12 k
end Go.Proofs.Ytampnnhdgnhjaaa.FrameSizes

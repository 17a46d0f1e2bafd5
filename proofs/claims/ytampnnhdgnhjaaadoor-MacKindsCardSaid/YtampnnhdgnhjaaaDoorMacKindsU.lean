/- MacKinds: the code of the law and of all that it calls, told by functions over numbers and rows. WRITTEN BY gen.py. -/
import Derived.Test.YtampnnhdgnhjaaaDoorHand
set_option linter.unusedVariables false
namespace Go.Proofs.YtampnnhdgnhjaaaDoor.MacKinds
open Go.Ve
set_option maxRecDepth 100000
theorem wakes_eq (k : AV → List AObj → Option Out) : runS tt (has eql) Tryd.prog.funcs 100000 [(24, idxSm), (25, joinSm), (26, splitSm)] [] opts 40 7 [] [] k = k (.b true) [] := by kernel_rfl
theorem yes7_ok : SumOk Tryd.prog 7 yes := SumOk.yes (runS_ok ttOk eqOk mixed (names_ok namesOk) (S := [(24, idxSm), (25, joinSm), (26, splitSm)]) (sums_cons idx_ok (sums_cons join_ok (sums_cons split_ok (sums_nil)))) hooks_nil opts 40) wakes_eq
/- weirgate/mac.Group -/
def mac_Group_T {α : Type}  (a_1 : Int) (k0 : Bool → Option α) : Option α := bif ((shrI .u64 a_1 48) == 0) then
  k0 ((bits .and .u64 (shrI .u64 a_1 40) 1) == 1)
 else k0 false
def mac_Group {α : Type} (a_1 : Int) (k0 : Bool → Option α) : Option α := mac_Group_T  a_1 k0
def mac_Group_S  : List (Nat × Sm) := [(7, yes), (24, idxSm), (25, joinSm), (26, splitSm)]
def mac_Group_B  : Hooks := []
theorem mac_Group_eq  (a_1 : Int) (k : FK) : runS tt (has eql) Tryd.prog.funcs 1152921504606846976 (mac_Group_S ) (mac_Group_B ) opts 40 15 [.v (.c (.pv (.val (.int .u64 a_1))))] [] k = mac_Group_T  a_1 (fun r0 => k (.v (.c (.pv (.val (.bool r0))))) []) := by kernel_rfl
def mac_Group_p : PAr := ⟨[.v (.c (.pv (.int .u64 .h)))], []⟩
def mac_Group_F (h : List Hole) (k : FK) : Option Out := mac_Group (gI h 0) (fun r0 => k (.v (.c (.pv (.val (.bool r0))))) [])
theorem mac_Group_at (h : List Hole) : CallAt Tryd.prog 15 (arFill mac_Group_p h).1 (arFill mac_Group_p h).2 (mac_Group_F h) := by
  have e : arFill mac_Group_p h = ([.v (.c (.pv (.val (.int .u64 (gI h 0)))))], []) := by kernel_rfl
  rw [e]; exact callAt_of (runS_ok ttOk eqOk mixed (names_ok namesOk) (S := mac_Group_S ) (sums_cons yes7_ok (sums_cons idx_ok (sums_cons join_ok (sums_cons split_ok (sums_nil))))) (B := mac_Group_B ) (hooks_nil) opts 40) fun k => mac_Group_eq  _ k
def e1 (x0 : Int) : Bool := ((bits .andNot .u64 (IntKind.u64.wrap ((x0.tmod 281474976710656) + 281474976710656)) 15) == 1652522221568)
def e2 (x0 : Int) : ByteArray := (⟨#[48, 49, 50, 51, 52, 53, 54, 55, 56, 57, 97, 98, 99, 100, 101, 102]⟩ : ByteArray).extract ((shrI .u8 (IntKind.u8.wrap (shrI .u64 x0 40)) 4).toNat) (((shrI .u8 (IntKind.u8.wrap (shrI .u64 x0 40)) 4).toNat) + (((IntKind.u8.wrap ((shrI .u8 (IntKind.u8.wrap (shrI .u64 x0 40)) 4) + 1)).toNat) - ((shrI .u8 (IntKind.u8.wrap (shrI .u64 x0 40)) 4).toNat)))
def e3 (x0 : Int) : ByteArray := (⟨#[48, 49, 50, 51, 52, 53, 54, 55, 56, 57, 97, 98, 99, 100, 101, 102]⟩ : ByteArray).extract ((bits .and .u8 (IntKind.u8.wrap (shrI .u64 x0 40)) 15).toNat) (((bits .and .u8 (IntKind.u8.wrap (shrI .u64 x0 40)) 15).toNat) + (((IntKind.u8.wrap ((bits .and .u8 (IntKind.u8.wrap (shrI .u64 x0 40)) 15) + 1)).toNat) - ((bits .and .u8 (IntKind.u8.wrap (shrI .u64 x0 40)) 15).toNat)))
def e4 (x0 : Int) : ByteArray := (⟨#[48, 49, 50, 51, 52, 53, 54, 55, 56, 57, 97, 98, 99, 100, 101, 102]⟩ : ByteArray).extract ((shrI .u8 (IntKind.u8.wrap (shrI .u64 x0 32)) 4).toNat) (((shrI .u8 (IntKind.u8.wrap (shrI .u64 x0 32)) 4).toNat) + (((IntKind.u8.wrap ((shrI .u8 (IntKind.u8.wrap (shrI .u64 x0 32)) 4) + 1)).toNat) - ((shrI .u8 (IntKind.u8.wrap (shrI .u64 x0 32)) 4).toNat)))
def e5 (x0 : Int) : ByteArray := (⟨#[48, 49, 50, 51, 52, 53, 54, 55, 56, 57, 97, 98, 99, 100, 101, 102]⟩ : ByteArray).extract ((bits .and .u8 (IntKind.u8.wrap (shrI .u64 x0 32)) 15).toNat) (((bits .and .u8 (IntKind.u8.wrap (shrI .u64 x0 32)) 15).toNat) + (((IntKind.u8.wrap ((bits .and .u8 (IntKind.u8.wrap (shrI .u64 x0 32)) 15) + 1)).toNat) - ((bits .and .u8 (IntKind.u8.wrap (shrI .u64 x0 32)) 15).toNat)))
def e6 (x0 : Int) : Nat → Nat → PV := catf 1 (rowOf 1 [.val (.string ((e2 x0) ++ (e3 x0)))]) (rowOf 1 [.val (.string ((e4 x0) ++ (e5 x0)))])
def e7 (x0 : Int) : ByteArray := (⟨#[48, 49, 50, 51, 52, 53, 54, 55, 56, 57, 97, 98, 99, 100, 101, 102]⟩ : ByteArray).extract ((shrI .u8 (IntKind.u8.wrap (shrI .u64 x0 24)) 4).toNat) (((shrI .u8 (IntKind.u8.wrap (shrI .u64 x0 24)) 4).toNat) + (((IntKind.u8.wrap ((shrI .u8 (IntKind.u8.wrap (shrI .u64 x0 24)) 4) + 1)).toNat) - ((shrI .u8 (IntKind.u8.wrap (shrI .u64 x0 24)) 4).toNat)))
def e8 (x0 : Int) : ByteArray := (⟨#[48, 49, 50, 51, 52, 53, 54, 55, 56, 57, 97, 98, 99, 100, 101, 102]⟩ : ByteArray).extract ((bits .and .u8 (IntKind.u8.wrap (shrI .u64 x0 24)) 15).toNat) (((bits .and .u8 (IntKind.u8.wrap (shrI .u64 x0 24)) 15).toNat) + (((IntKind.u8.wrap ((bits .and .u8 (IntKind.u8.wrap (shrI .u64 x0 24)) 15) + 1)).toNat) - ((bits .and .u8 (IntKind.u8.wrap (shrI .u64 x0 24)) 15).toNat)))
def e9 (x0 : Int) : ByteArray := (⟨#[48, 49, 50, 51, 52, 53, 54, 55, 56, 57, 97, 98, 99, 100, 101, 102]⟩ : ByteArray).extract ((shrI .u8 (IntKind.u8.wrap (shrI .u64 x0 16)) 4).toNat) (((shrI .u8 (IntKind.u8.wrap (shrI .u64 x0 16)) 4).toNat) + (((IntKind.u8.wrap ((shrI .u8 (IntKind.u8.wrap (shrI .u64 x0 16)) 4) + 1)).toNat) - ((shrI .u8 (IntKind.u8.wrap (shrI .u64 x0 16)) 4).toNat)))
def e10 (x0 : Int) : ByteArray := (⟨#[48, 49, 50, 51, 52, 53, 54, 55, 56, 57, 97, 98, 99, 100, 101, 102]⟩ : ByteArray).extract ((bits .and .u8 (IntKind.u8.wrap (shrI .u64 x0 16)) 15).toNat) (((bits .and .u8 (IntKind.u8.wrap (shrI .u64 x0 16)) 15).toNat) + (((IntKind.u8.wrap ((bits .and .u8 (IntKind.u8.wrap (shrI .u64 x0 16)) 15) + 1)).toNat) - ((bits .and .u8 (IntKind.u8.wrap (shrI .u64 x0 16)) 15).toNat)))
def e11 (x0 : Int) : Nat → Nat → PV := catf 3 (catf 2 (e6 x0) (rowOf 1 [.val (.string ((e7 x0) ++ (e8 x0)))])) (rowOf 1 [.val (.string ((e9 x0) ++ (e10 x0)))])
def e12 (x0 : Int) : ByteArray := (⟨#[48, 49, 50, 51, 52, 53, 54, 55, 56, 57, 97, 98, 99, 100, 101, 102]⟩ : ByteArray).extract ((shrI .u8 (IntKind.u8.wrap (shrI .u64 x0 8)) 4).toNat) (((shrI .u8 (IntKind.u8.wrap (shrI .u64 x0 8)) 4).toNat) + (((IntKind.u8.wrap ((shrI .u8 (IntKind.u8.wrap (shrI .u64 x0 8)) 4) + 1)).toNat) - ((shrI .u8 (IntKind.u8.wrap (shrI .u64 x0 8)) 4).toNat)))
def e13 (x0 : Int) : ByteArray := (⟨#[48, 49, 50, 51, 52, 53, 54, 55, 56, 57, 97, 98, 99, 100, 101, 102]⟩ : ByteArray).extract ((bits .and .u8 (IntKind.u8.wrap (shrI .u64 x0 8)) 15).toNat) (((bits .and .u8 (IntKind.u8.wrap (shrI .u64 x0 8)) 15).toNat) + (((IntKind.u8.wrap ((bits .and .u8 (IntKind.u8.wrap (shrI .u64 x0 8)) 15) + 1)).toNat) - ((bits .and .u8 (IntKind.u8.wrap (shrI .u64 x0 8)) 15).toNat)))
def e14 (x0 : Int) : ByteArray := (⟨#[48, 49, 50, 51, 52, 53, 54, 55, 56, 57, 97, 98, 99, 100, 101, 102]⟩ : ByteArray).extract ((shrI .u8 (IntKind.u8.wrap (shrI .u64 x0 0)) 4).toNat) (((shrI .u8 (IntKind.u8.wrap (shrI .u64 x0 0)) 4).toNat) + (((IntKind.u8.wrap ((shrI .u8 (IntKind.u8.wrap (shrI .u64 x0 0)) 4) + 1)).toNat) - ((shrI .u8 (IntKind.u8.wrap (shrI .u64 x0 0)) 4).toNat)))
def e15 (x0 : Int) : ByteArray := (⟨#[48, 49, 50, 51, 52, 53, 54, 55, 56, 57, 97, 98, 99, 100, 101, 102]⟩ : ByteArray).extract ((bits .and .u8 (IntKind.u8.wrap (shrI .u64 x0 0)) 15).toNat) (((bits .and .u8 (IntKind.u8.wrap (shrI .u64 x0 0)) 15).toNat) + (((IntKind.u8.wrap ((bits .and .u8 (IntKind.u8.wrap (shrI .u64 x0 0)) 15) + 1)).toNat) - ((bits .and .u8 (IntKind.u8.wrap (shrI .u64 x0 0)) 15).toNat)))
def e16 (x0 : Int) : Nat → Nat → PV := catf 5 (catf 4 (e11 x0) (rowOf 1 [.val (.string ((e12 x0) ++ (e13 x0)))])) (rowOf 1 [.val (.string ((e14 x0) ++ (e15 x0)))])
/- weirgate/mac.Text -/
def mac_Text_T {α : Type}  (a_1 : Int) (k0 : Option α) (k1 : ByteArray → Option α) : Option α := bif !((shrI .u64 a_1 48) == 0) then
  k0
 else bif inb (IntKind.u8.wrap ((shrI .u8 (IntKind.u8.wrap (shrI .u64 a_1 40)) 4) + 1)) 17 then
  bif (decide (0 ≤ shrI .u8 (IntKind.u8.wrap (shrI .u64 a_1 40)) 4) && decide (shrI .u8 (IntKind.u8.wrap (shrI .u64 a_1 40)) 4 ≤ IntKind.u8.wrap ((shrI .u8 (IntKind.u8.wrap (shrI .u64 a_1 40)) 4) + 1))) then
   bif inb (IntKind.u8.wrap ((bits .and .u8 (IntKind.u8.wrap (shrI .u64 a_1 40)) 15) + 1)) 17 then
    bif (decide (0 ≤ bits .and .u8 (IntKind.u8.wrap (shrI .u64 a_1 40)) 15) && decide (bits .and .u8 (IntKind.u8.wrap (shrI .u64 a_1 40)) 15 ≤ IntKind.u8.wrap ((bits .and .u8 (IntKind.u8.wrap (shrI .u64 a_1 40)) 15) + 1))) then
     bif Nat.ble ((e2 a_1).size + (e3 a_1).size) 4611686018427387904 then
      bif inb (IntKind.u8.wrap ((shrI .u8 (IntKind.u8.wrap (shrI .u64 a_1 32)) 4) + 1)) 17 then
       bif (decide (0 ≤ shrI .u8 (IntKind.u8.wrap (shrI .u64 a_1 32)) 4) && decide (shrI .u8 (IntKind.u8.wrap (shrI .u64 a_1 32)) 4 ≤ IntKind.u8.wrap ((shrI .u8 (IntKind.u8.wrap (shrI .u64 a_1 32)) 4) + 1))) then
        bif inb (IntKind.u8.wrap ((bits .and .u8 (IntKind.u8.wrap (shrI .u64 a_1 32)) 15) + 1)) 17 then
         bif (decide (0 ≤ bits .and .u8 (IntKind.u8.wrap (shrI .u64 a_1 32)) 15) && decide (bits .and .u8 (IntKind.u8.wrap (shrI .u64 a_1 32)) 15 ≤ IntKind.u8.wrap ((bits .and .u8 (IntKind.u8.wrap (shrI .u64 a_1 32)) 15) + 1))) then
          bif Nat.ble ((e4 a_1).size + (e5 a_1).size) 4611686018427387904 then
           bif inb (IntKind.u8.wrap ((shrI .u8 (IntKind.u8.wrap (shrI .u64 a_1 24)) 4) + 1)) 17 then
            bif (decide (0 ≤ shrI .u8 (IntKind.u8.wrap (shrI .u64 a_1 24)) 4) && decide (shrI .u8 (IntKind.u8.wrap (shrI .u64 a_1 24)) 4 ≤ IntKind.u8.wrap ((shrI .u8 (IntKind.u8.wrap (shrI .u64 a_1 24)) 4) + 1))) then
             bif inb (IntKind.u8.wrap ((bits .and .u8 (IntKind.u8.wrap (shrI .u64 a_1 24)) 15) + 1)) 17 then
              bif (decide (0 ≤ bits .and .u8 (IntKind.u8.wrap (shrI .u64 a_1 24)) 15) && decide (bits .and .u8 (IntKind.u8.wrap (shrI .u64 a_1 24)) 15 ≤ IntKind.u8.wrap ((bits .and .u8 (IntKind.u8.wrap (shrI .u64 a_1 24)) 15) + 1))) then
               bif Nat.ble ((e7 a_1).size + (e8 a_1).size) 4611686018427387904 then
                bif inb (IntKind.u8.wrap ((shrI .u8 (IntKind.u8.wrap (shrI .u64 a_1 16)) 4) + 1)) 17 then
                 bif (decide (0 ≤ shrI .u8 (IntKind.u8.wrap (shrI .u64 a_1 16)) 4) && decide (shrI .u8 (IntKind.u8.wrap (shrI .u64 a_1 16)) 4 ≤ IntKind.u8.wrap ((shrI .u8 (IntKind.u8.wrap (shrI .u64 a_1 16)) 4) + 1))) then
                  bif inb (IntKind.u8.wrap ((bits .and .u8 (IntKind.u8.wrap (shrI .u64 a_1 16)) 15) + 1)) 17 then
                   bif (decide (0 ≤ bits .and .u8 (IntKind.u8.wrap (shrI .u64 a_1 16)) 15) && decide (bits .and .u8 (IntKind.u8.wrap (shrI .u64 a_1 16)) 15 ≤ IntKind.u8.wrap ((bits .and .u8 (IntKind.u8.wrap (shrI .u64 a_1 16)) 15) + 1))) then
                    bif Nat.ble ((e9 a_1).size + (e10 a_1).size) 4611686018427387904 then
                     bif inb (IntKind.u8.wrap ((shrI .u8 (IntKind.u8.wrap (shrI .u64 a_1 8)) 4) + 1)) 17 then
                      bif (decide (0 ≤ shrI .u8 (IntKind.u8.wrap (shrI .u64 a_1 8)) 4) && decide (shrI .u8 (IntKind.u8.wrap (shrI .u64 a_1 8)) 4 ≤ IntKind.u8.wrap ((shrI .u8 (IntKind.u8.wrap (shrI .u64 a_1 8)) 4) + 1))) then
                       bif inb (IntKind.u8.wrap ((bits .and .u8 (IntKind.u8.wrap (shrI .u64 a_1 8)) 15) + 1)) 17 then
                        bif (decide (0 ≤ bits .and .u8 (IntKind.u8.wrap (shrI .u64 a_1 8)) 15) && decide (bits .and .u8 (IntKind.u8.wrap (shrI .u64 a_1 8)) 15 ≤ IntKind.u8.wrap ((bits .and .u8 (IntKind.u8.wrap (shrI .u64 a_1 8)) 15) + 1))) then
                         bif Nat.ble ((e12 a_1).size + (e13 a_1).size) 4611686018427387904 then
                          bif inb (IntKind.u8.wrap ((shrI .u8 (IntKind.u8.wrap (shrI .u64 a_1 0)) 4) + 1)) 17 then
                           bif (decide (0 ≤ shrI .u8 (IntKind.u8.wrap (shrI .u64 a_1 0)) 4) && decide (shrI .u8 (IntKind.u8.wrap (shrI .u64 a_1 0)) 4 ≤ IntKind.u8.wrap ((shrI .u8 (IntKind.u8.wrap (shrI .u64 a_1 0)) 4) + 1))) then
                            bif inb (IntKind.u8.wrap ((bits .and .u8 (IntKind.u8.wrap (shrI .u64 a_1 0)) 15) + 1)) 17 then
                             bif (decide (0 ≤ bits .and .u8 (IntKind.u8.wrap (shrI .u64 a_1 0)) 15) && decide (bits .and .u8 (IntKind.u8.wrap (shrI .u64 a_1 0)) 15 ≤ IntKind.u8.wrap ((bits .and .u8 (IntKind.u8.wrap (shrI .u64 a_1 0)) 15) + 1))) then
                              bif Nat.ble ((e14 a_1).size + (e15 a_1).size) 4611686018427387904 then
                               bif joinOk 6 (e16 a_1) (⟨#[58]⟩ : ByteArray) then
                                k1 (joinS 6 (e16 a_1) (⟨#[58]⟩ : ByteArray))
                               else none /- test -/
                              else none /- test -/
                             else none /- test -/
                            else none /- test -/
                           else none /- test -/
                          else none /- test -/
                         else none /- test -/
                        else none /- test -/
                       else none /- test -/
                      else none /- test -/
                     else none /- test -/
                    else none /- test -/
                   else none /- test -/
                  else none /- test -/
                 else none /- test -/
                else none /- test -/
               else none /- test -/
              else none /- test -/
             else none /- test -/
            else none /- test -/
           else none /- test -/
          else none /- test -/
         else none /- test -/
        else none /- test -/
       else none /- test -/
      else none /- test -/
     else none /- test -/
    else none /- test -/
   else none /- test -/
  else none /- test -/
 else none /- test -/
def mac_Text {α : Type} (a_1 : Int) (k0 : Option α) (k1 : ByteArray → Option α) : Option α := mac_Text_T  a_1 k0 k1
def mac_Text_S  : List (Nat × Sm) := [(7, yes), (24, idxSm), (25, joinSm), (26, splitSm)]
def mac_Text_B  : Hooks := []
theorem mac_Text_eq  (a_1 : Int) (k : FK) : runS tt (has eql) Tryd.prog.funcs 1152921504606846976 (mac_Text_S ) (mac_Text_B ) opts 40 21 [.v (.c (.pv (.val (.int .u64 a_1))))] [] k = mac_Text_T  a_1 (k (.v (.c (.pv (.val (.string (⟨#[]⟩ : ByteArray)))))) []) (fun r0 => k (.v (.c (.pv (.val (.string r0))))) []) := by kernel_rfl
def mac_Text_p : PAr := ⟨[.v (.c (.pv (.int .u64 .h)))], []⟩
def mac_Text_F (h : List Hole) (k : FK) : Option Out := mac_Text (gI h 0) (k (.v (.c (.pv (.val (.string (⟨#[]⟩ : ByteArray)))))) []) (fun r0 => k (.v (.c (.pv (.val (.string r0))))) [])
theorem mac_Text_at (h : List Hole) : CallAt Tryd.prog 21 (arFill mac_Text_p h).1 (arFill mac_Text_p h).2 (mac_Text_F h) := by
  have e : arFill mac_Text_p h = ([.v (.c (.pv (.val (.int .u64 (gI h 0)))))], []) := by kernel_rfl
  rw [e]; exact callAt_of (runS_ok ttOk eqOk mixed (names_ok namesOk) (S := mac_Text_S ) (sums_cons yes7_ok (sums_cons idx_ok (sums_cons join_ok (sums_cons split_ok (sums_nil))))) (B := mac_Text_B ) (hooks_nil) opts 40) fun k => mac_Text_eq  _ k
def e17 (x0 : Int) : Int := IntKind.u8.wrap (shrI .u64 (IntKind.u64.wrap ((x0.tmod 281474976710656) + 281474976710656)) 40)
def e18 (x0 : Int) : Int := IntKind.u8.wrap (shrI .u64 (IntKind.u64.wrap ((x0.tmod 281474976710656) + 281474976710656)) 32)
def e19 (x0 : Int) : Int := IntKind.u8.wrap (shrI .u64 (IntKind.u64.wrap ((x0.tmod 281474976710656) + 281474976710656)) 24)
def e20 (x0 : Int) : Int := IntKind.u8.wrap (shrI .u64 (IntKind.u64.wrap ((x0.tmod 281474976710656) + 281474976710656)) 16)
def e21 (x0 : Int) : Int := IntKind.u8.wrap (shrI .u64 (IntKind.u64.wrap ((x0.tmod 281474976710656) + 281474976710656)) 8)
def e22 (x0 : Int) : Int := IntKind.u8.wrap (shrI .u64 (IntKind.u64.wrap ((x0.tmod 281474976710656) + 281474976710656)) 0)
def e23 (x0 : Int) : Bool := (((e17 x0) == (IntKind.u8.wrap (shrI .u64 (x0.tmod 281474976710656) 40))) && (((e18 x0) == (IntKind.u8.wrap (shrI .u64 (x0.tmod 281474976710656) 32))) && (((e19 x0) == (IntKind.u8.wrap (shrI .u64 (x0.tmod 281474976710656) 24))) && (((e20 x0) == (IntKind.u8.wrap (shrI .u64 (x0.tmod 281474976710656) 16))) && (((e21 x0) == (IntKind.u8.wrap (shrI .u64 (x0.tmod 281474976710656) 8))) && ((e22 x0) == (IntKind.u8.wrap (shrI .u64 (x0.tmod 281474976710656) 0))))))))
/- weirgate/weirgatelaw09.MacKinds -/
def law09_MacKinds_T {α : Type} (Gmac_Group : Int → (Bool → Option α) → Option α) (Gmac_Text : Int → (Option α) → (ByteArray → Option α) → Option α) (a_1 : Int) (k0 : Option α) (k1 : Option α) : Option α := bif ((bits .andNot .u64 (a_1.tmod 281474976710656) 15) == 1652522221568) then
  Gmac_Group (a_1.tmod 281474976710656)
   (fun r_2 => bif !r_2 then
    k0
   else Gmac_Group (a_1.tmod 281474976710656)
    (fun r_3 => Gmac_Group (bits .xor .u64 (a_1.tmod 281474976710656) 1099511627776)
     (fun r_4 => bif (r_3 == r_4) then
      k0
     else bif !((shrI .u64 (a_1.tmod 281474976710656) 48) == 0) then
      k0
     else bif !((shrI .u64 (IntKind.u64.wrap ((a_1.tmod 281474976710656) + 281474976710656)) 48) == 0) then
      Gmac_Group (IntKind.u64.wrap ((a_1.tmod 281474976710656) + 281474976710656))
       (fun r_5 => bif !r_5 then
        bif !(e1 a_1) then
         Gmac_Text (IntKind.u64.wrap ((a_1.tmod 281474976710656) + 281474976710656))
          (Gmac_Text (a_1.tmod 281474976710656)
           (k0)
           (fun r_6 => bif ((r_6.size : Int) == 17) then
            bif e23 a_1 then
             k1
            else k0
           else k0))
          (fun r_6 => bif (r_6.toList == (⟨#[]⟩ : ByteArray).toList) then
           Gmac_Text (a_1.tmod 281474976710656)
            (k0)
            (fun r_7 => bif ((r_7.size : Int) == 17) then
             bif e23 a_1 then
              k1
             else k0
            else k0)
          else k0)
        else k0
       else k0)
     else k0)))
 else Gmac_Group (a_1.tmod 281474976710656)
  (fun r_2 => Gmac_Group (bits .xor .u64 (a_1.tmod 281474976710656) 1099511627776)
   (fun r_3 => bif (r_2 == r_3) then
    k0
   else bif !((shrI .u64 (a_1.tmod 281474976710656) 48) == 0) then
    k0
   else bif !((shrI .u64 (IntKind.u64.wrap ((a_1.tmod 281474976710656) + 281474976710656)) 48) == 0) then
    Gmac_Group (IntKind.u64.wrap ((a_1.tmod 281474976710656) + 281474976710656))
     (fun r_4 => bif !r_4 then
      bif !(e1 a_1) then
       Gmac_Text (IntKind.u64.wrap ((a_1.tmod 281474976710656) + 281474976710656))
        (Gmac_Text (a_1.tmod 281474976710656)
         (k0)
         (fun r_5 => bif ((r_5.size : Int) == 17) then
          bif e23 a_1 then
           k1
          else k0
         else k0))
        (fun r_5 => bif (r_5.toList == (⟨#[]⟩ : ByteArray).toList) then
         Gmac_Text (a_1.tmod 281474976710656)
          (k0)
          (fun r_6 => bif ((r_6.size : Int) == 17) then
           bif e23 a_1 then
            k1
           else k0
          else k0)
        else k0)
      else k0
     else k0)
   else k0))
def law09_MacKinds {α : Type} (a_1 : Int) (k0 : Option α) (k1 : Option α) : Option α := law09_MacKinds_T mac_Group mac_Text a_1 k0 k1
def law09_MacKinds_S (Gmac_Group : Int → (Bool → Option Out) → Option Out) (Gmac_Text : Int → (Option Out) → (ByteArray → Option Out) → Option Out) : List (Nat × Sm) := [(7, yes), (24, idxSm), (25, joinSm), (26, splitSm), (15, smOf [(mac_Group_p, fun h k => Gmac_Group (gI h 0) (fun r0 => k (.v (.c (.pv (.val (.bool r0))))) []))]), (21, smOf [(mac_Text_p, fun h k => Gmac_Text (gI h 0) (k (.v (.c (.pv (.val (.string (⟨#[]⟩ : ByteArray)))))) []) (fun r0 => k (.v (.c (.pv (.val (.string r0))))) []))])]
def law09_MacKinds_B (Gmac_Group : Int → (Bool → Option Out) → Option Out) (Gmac_Text : Int → (Option Out) → (ByteArray → Option Out) → Option Out) : Hooks := []
theorem law09_MacKinds_eq (Gmac_Group : Int → (Bool → Option Out) → Option Out) (Gmac_Text : Int → (Option Out) → (ByteArray → Option Out) → Option Out) (a_1 : Int) (k : FK) : runS tt (has eql) Tryd.prog.funcs 1152921504606846976 (law09_MacKinds_S Gmac_Group Gmac_Text) (law09_MacKinds_B Gmac_Group Gmac_Text) opts 40 5 [.v (.c (.pv (.val (.int .u64 a_1))))] [] k = law09_MacKinds_T Gmac_Group Gmac_Text a_1 (k (.v (.c (.pv (.val (.bool false))))) []) (k (.v (.c (.pv (.val (.bool true))))) []) := by kernel_rfl
def law09_MacKinds_p : PAr := ⟨[.v (.c (.pv (.int .u64 .h)))], []⟩
def law09_MacKinds_F (h : List Hole) (k : FK) : Option Out := law09_MacKinds (gI h 0) (k (.v (.c (.pv (.val (.bool false))))) []) (k (.v (.c (.pv (.val (.bool true))))) [])
theorem law09_MacKinds_at (h : List Hole) : CallAt Tryd.prog 5 (arFill law09_MacKinds_p h).1 (arFill law09_MacKinds_p h).2 (law09_MacKinds_F h) := by
  have e : arFill law09_MacKinds_p h = ([.v (.c (.pv (.val (.int .u64 (gI h 0)))))], []) := by kernel_rfl
  rw [e]; exact callAt_of (runS_ok ttOk eqOk mixed (names_ok namesOk) (S := law09_MacKinds_S mac_Group mac_Text) (sums_cons yes7_ok (sums_cons idx_ok (sums_cons join_ok (sums_cons split_ok (sums_cons (smOf_ok (alts_cons mac_Group_at alts_nil)) (sums_cons (smOf_ok (alts_cons mac_Text_at alts_nil)) (sums_nil))))))) (B := law09_MacKinds_B mac_Group mac_Text) (hooks_nil) opts 40) fun k => law09_MacKinds_eq mac_Group mac_Text _ k
theorem call_ok : CallSem Tryd.prog (runS tt (has eql) Tryd.prog.funcs 1152921504606846976 (law09_MacKinds_S mac_Group mac_Text) (law09_MacKinds_B mac_Group mac_Text) opts 40) := runS_ok ttOk eqOk mixed (names_ok namesOk) (S := law09_MacKinds_S mac_Group mac_Text) (sums_cons yes7_ok (sums_cons idx_ok (sums_cons join_ok (sums_cons split_ok (sums_cons (smOf_ok (alts_cons mac_Group_at alts_nil)) (sums_cons (smOf_ok (alts_cons mac_Text_at alts_nil)) (sums_nil))))))) (B := law09_MacKinds_B mac_Group mac_Text) (hooks_nil) opts 40
theorem law_eq (a_1 : Int) (k : FK) : runS tt (has eql) Tryd.prog.funcs 1152921504606846976 (law09_MacKinds_S mac_Group mac_Text) (law09_MacKinds_B mac_Group mac_Text) opts 40 5 [.v (.c (.pv (.val (.int .u64 a_1))))] [] k = law09_MacKinds a_1 (k (.v (.c (.pv (.val (.bool false))))) []) (k (.v (.c (.pv (.val (.bool true))))) []) := law09_MacKinds_eq mac_Group mac_Text a_1 k
end Go.Proofs.YtampnnhdgnhjaaaDoor.MacKinds

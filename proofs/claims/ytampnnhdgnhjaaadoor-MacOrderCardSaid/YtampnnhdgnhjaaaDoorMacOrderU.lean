/- MacOrder: the code of the law and of all that it calls, told by functions over numbers and rows. WRITTEN BY gen.py. -/
import Derived.Test.YtampnnhdgnhjaaaDoorHand
set_option linter.unusedVariables false
namespace Go.Proofs.YtampnnhdgnhjaaaDoor.MacOrder
open Go.Ve
set_option maxRecDepth 100000
theorem wakes_eq (k : AV → List AObj → Option Out) : runS tt (has eql) Tryd.prog.funcs 100000 [(24, idxSm), (25, joinSm), (26, splitSm)] [] opts 40 7 [] [] k = k (.b true) [] := by kernel_rfl
theorem yes7_ok : SumOk Tryd.prog 7 yes := SumOk.yes (runS_ok ttOk eqOk mixed (names_ok namesOk) (S := [(24, idxSm), (25, joinSm), (26, splitSm)]) (sums_cons idx_ok (sums_cons join_ok (sums_cons split_ok (sums_nil)))) hooks_nil opts 40) wakes_eq
def e1 (x0 : Int) : ByteArray := (⟨#[48, 49, 50, 51, 52, 53, 54, 55, 56, 57, 97, 98, 99, 100, 101, 102]⟩ : ByteArray).extract ((shrI .u8 (IntKind.u8.wrap (shrI .u64 x0 40)) 4).toNat) (((shrI .u8 (IntKind.u8.wrap (shrI .u64 x0 40)) 4).toNat) + (((IntKind.u8.wrap ((shrI .u8 (IntKind.u8.wrap (shrI .u64 x0 40)) 4) + 1)).toNat) - ((shrI .u8 (IntKind.u8.wrap (shrI .u64 x0 40)) 4).toNat)))
def e2 (x0 : Int) : ByteArray := (⟨#[48, 49, 50, 51, 52, 53, 54, 55, 56, 57, 97, 98, 99, 100, 101, 102]⟩ : ByteArray).extract ((bits .and .u8 (IntKind.u8.wrap (shrI .u64 x0 40)) 15).toNat) (((bits .and .u8 (IntKind.u8.wrap (shrI .u64 x0 40)) 15).toNat) + (((IntKind.u8.wrap ((bits .and .u8 (IntKind.u8.wrap (shrI .u64 x0 40)) 15) + 1)).toNat) - ((bits .and .u8 (IntKind.u8.wrap (shrI .u64 x0 40)) 15).toNat)))
def e3 (x0 : Int) : ByteArray := (⟨#[48, 49, 50, 51, 52, 53, 54, 55, 56, 57, 97, 98, 99, 100, 101, 102]⟩ : ByteArray).extract ((shrI .u8 (IntKind.u8.wrap (shrI .u64 x0 32)) 4).toNat) (((shrI .u8 (IntKind.u8.wrap (shrI .u64 x0 32)) 4).toNat) + (((IntKind.u8.wrap ((shrI .u8 (IntKind.u8.wrap (shrI .u64 x0 32)) 4) + 1)).toNat) - ((shrI .u8 (IntKind.u8.wrap (shrI .u64 x0 32)) 4).toNat)))
def e4 (x0 : Int) : ByteArray := (⟨#[48, 49, 50, 51, 52, 53, 54, 55, 56, 57, 97, 98, 99, 100, 101, 102]⟩ : ByteArray).extract ((bits .and .u8 (IntKind.u8.wrap (shrI .u64 x0 32)) 15).toNat) (((bits .and .u8 (IntKind.u8.wrap (shrI .u64 x0 32)) 15).toNat) + (((IntKind.u8.wrap ((bits .and .u8 (IntKind.u8.wrap (shrI .u64 x0 32)) 15) + 1)).toNat) - ((bits .and .u8 (IntKind.u8.wrap (shrI .u64 x0 32)) 15).toNat)))
def e5 (x0 : Int) : Nat → Nat → PV := catf 1 (rowOf 1 [.val (.string ((e1 x0) ++ (e2 x0)))]) (rowOf 1 [.val (.string ((e3 x0) ++ (e4 x0)))])
def e6 (x0 : Int) : ByteArray := (⟨#[48, 49, 50, 51, 52, 53, 54, 55, 56, 57, 97, 98, 99, 100, 101, 102]⟩ : ByteArray).extract ((shrI .u8 (IntKind.u8.wrap (shrI .u64 x0 24)) 4).toNat) (((shrI .u8 (IntKind.u8.wrap (shrI .u64 x0 24)) 4).toNat) + (((IntKind.u8.wrap ((shrI .u8 (IntKind.u8.wrap (shrI .u64 x0 24)) 4) + 1)).toNat) - ((shrI .u8 (IntKind.u8.wrap (shrI .u64 x0 24)) 4).toNat)))
def e7 (x0 : Int) : ByteArray := (⟨#[48, 49, 50, 51, 52, 53, 54, 55, 56, 57, 97, 98, 99, 100, 101, 102]⟩ : ByteArray).extract ((bits .and .u8 (IntKind.u8.wrap (shrI .u64 x0 24)) 15).toNat) (((bits .and .u8 (IntKind.u8.wrap (shrI .u64 x0 24)) 15).toNat) + (((IntKind.u8.wrap ((bits .and .u8 (IntKind.u8.wrap (shrI .u64 x0 24)) 15) + 1)).toNat) - ((bits .and .u8 (IntKind.u8.wrap (shrI .u64 x0 24)) 15).toNat)))
def e8 (x0 : Int) : ByteArray := (⟨#[48, 49, 50, 51, 52, 53, 54, 55, 56, 57, 97, 98, 99, 100, 101, 102]⟩ : ByteArray).extract ((shrI .u8 (IntKind.u8.wrap (shrI .u64 x0 16)) 4).toNat) (((shrI .u8 (IntKind.u8.wrap (shrI .u64 x0 16)) 4).toNat) + (((IntKind.u8.wrap ((shrI .u8 (IntKind.u8.wrap (shrI .u64 x0 16)) 4) + 1)).toNat) - ((shrI .u8 (IntKind.u8.wrap (shrI .u64 x0 16)) 4).toNat)))
def e9 (x0 : Int) : ByteArray := (⟨#[48, 49, 50, 51, 52, 53, 54, 55, 56, 57, 97, 98, 99, 100, 101, 102]⟩ : ByteArray).extract ((bits .and .u8 (IntKind.u8.wrap (shrI .u64 x0 16)) 15).toNat) (((bits .and .u8 (IntKind.u8.wrap (shrI .u64 x0 16)) 15).toNat) + (((IntKind.u8.wrap ((bits .and .u8 (IntKind.u8.wrap (shrI .u64 x0 16)) 15) + 1)).toNat) - ((bits .and .u8 (IntKind.u8.wrap (shrI .u64 x0 16)) 15).toNat)))
def e10 (x0 : Int) : Nat → Nat → PV := catf 3 (catf 2 (e5 x0) (rowOf 1 [.val (.string ((e6 x0) ++ (e7 x0)))])) (rowOf 1 [.val (.string ((e8 x0) ++ (e9 x0)))])
def e11 (x0 : Int) : ByteArray := (⟨#[48, 49, 50, 51, 52, 53, 54, 55, 56, 57, 97, 98, 99, 100, 101, 102]⟩ : ByteArray).extract ((shrI .u8 (IntKind.u8.wrap (shrI .u64 x0 8)) 4).toNat) (((shrI .u8 (IntKind.u8.wrap (shrI .u64 x0 8)) 4).toNat) + (((IntKind.u8.wrap ((shrI .u8 (IntKind.u8.wrap (shrI .u64 x0 8)) 4) + 1)).toNat) - ((shrI .u8 (IntKind.u8.wrap (shrI .u64 x0 8)) 4).toNat)))
def e12 (x0 : Int) : ByteArray := (⟨#[48, 49, 50, 51, 52, 53, 54, 55, 56, 57, 97, 98, 99, 100, 101, 102]⟩ : ByteArray).extract ((bits .and .u8 (IntKind.u8.wrap (shrI .u64 x0 8)) 15).toNat) (((bits .and .u8 (IntKind.u8.wrap (shrI .u64 x0 8)) 15).toNat) + (((IntKind.u8.wrap ((bits .and .u8 (IntKind.u8.wrap (shrI .u64 x0 8)) 15) + 1)).toNat) - ((bits .and .u8 (IntKind.u8.wrap (shrI .u64 x0 8)) 15).toNat)))
def e13 (x0 : Int) : ByteArray := (⟨#[48, 49, 50, 51, 52, 53, 54, 55, 56, 57, 97, 98, 99, 100, 101, 102]⟩ : ByteArray).extract ((shrI .u8 (IntKind.u8.wrap (shrI .u64 x0 0)) 4).toNat) (((shrI .u8 (IntKind.u8.wrap (shrI .u64 x0 0)) 4).toNat) + (((IntKind.u8.wrap ((shrI .u8 (IntKind.u8.wrap (shrI .u64 x0 0)) 4) + 1)).toNat) - ((shrI .u8 (IntKind.u8.wrap (shrI .u64 x0 0)) 4).toNat)))
def e14 (x0 : Int) : ByteArray := (⟨#[48, 49, 50, 51, 52, 53, 54, 55, 56, 57, 97, 98, 99, 100, 101, 102]⟩ : ByteArray).extract ((bits .and .u8 (IntKind.u8.wrap (shrI .u64 x0 0)) 15).toNat) (((bits .and .u8 (IntKind.u8.wrap (shrI .u64 x0 0)) 15).toNat) + (((IntKind.u8.wrap ((bits .and .u8 (IntKind.u8.wrap (shrI .u64 x0 0)) 15) + 1)).toNat) - ((bits .and .u8 (IntKind.u8.wrap (shrI .u64 x0 0)) 15).toNat)))
def e15 (x0 : Int) : Nat → Nat → PV := catf 5 (catf 4 (e10 x0) (rowOf 1 [.val (.string ((e11 x0) ++ (e12 x0)))])) (rowOf 1 [.val (.string ((e13 x0) ++ (e14 x0)))])
/- weirgate/mac.Text -/
def mac_Text_T {α : Type}  (a_1 : Int) (k0 : Option α) (k1 : ByteArray → Option α) : Option α := bif !((shrI .u64 a_1 48) == 0) then
  k0
 else bif inb (IntKind.u8.wrap ((shrI .u8 (IntKind.u8.wrap (shrI .u64 a_1 40)) 4) + 1)) 17 then
  bif (decide (0 ≤ shrI .u8 (IntKind.u8.wrap (shrI .u64 a_1 40)) 4) && decide (shrI .u8 (IntKind.u8.wrap (shrI .u64 a_1 40)) 4 ≤ IntKind.u8.wrap ((shrI .u8 (IntKind.u8.wrap (shrI .u64 a_1 40)) 4) + 1))) then
   bif inb (IntKind.u8.wrap ((bits .and .u8 (IntKind.u8.wrap (shrI .u64 a_1 40)) 15) + 1)) 17 then
    bif (decide (0 ≤ bits .and .u8 (IntKind.u8.wrap (shrI .u64 a_1 40)) 15) && decide (bits .and .u8 (IntKind.u8.wrap (shrI .u64 a_1 40)) 15 ≤ IntKind.u8.wrap ((bits .and .u8 (IntKind.u8.wrap (shrI .u64 a_1 40)) 15) + 1))) then
     bif Nat.ble ((e1 a_1).size + (e2 a_1).size) 4611686018427387904 then
      bif inb (IntKind.u8.wrap ((shrI .u8 (IntKind.u8.wrap (shrI .u64 a_1 32)) 4) + 1)) 17 then
       bif (decide (0 ≤ shrI .u8 (IntKind.u8.wrap (shrI .u64 a_1 32)) 4) && decide (shrI .u8 (IntKind.u8.wrap (shrI .u64 a_1 32)) 4 ≤ IntKind.u8.wrap ((shrI .u8 (IntKind.u8.wrap (shrI .u64 a_1 32)) 4) + 1))) then
        bif inb (IntKind.u8.wrap ((bits .and .u8 (IntKind.u8.wrap (shrI .u64 a_1 32)) 15) + 1)) 17 then
         bif (decide (0 ≤ bits .and .u8 (IntKind.u8.wrap (shrI .u64 a_1 32)) 15) && decide (bits .and .u8 (IntKind.u8.wrap (shrI .u64 a_1 32)) 15 ≤ IntKind.u8.wrap ((bits .and .u8 (IntKind.u8.wrap (shrI .u64 a_1 32)) 15) + 1))) then
          bif Nat.ble ((e3 a_1).size + (e4 a_1).size) 4611686018427387904 then
           bif inb (IntKind.u8.wrap ((shrI .u8 (IntKind.u8.wrap (shrI .u64 a_1 24)) 4) + 1)) 17 then
            bif (decide (0 ≤ shrI .u8 (IntKind.u8.wrap (shrI .u64 a_1 24)) 4) && decide (shrI .u8 (IntKind.u8.wrap (shrI .u64 a_1 24)) 4 ≤ IntKind.u8.wrap ((shrI .u8 (IntKind.u8.wrap (shrI .u64 a_1 24)) 4) + 1))) then
             bif inb (IntKind.u8.wrap ((bits .and .u8 (IntKind.u8.wrap (shrI .u64 a_1 24)) 15) + 1)) 17 then
              bif (decide (0 ≤ bits .and .u8 (IntKind.u8.wrap (shrI .u64 a_1 24)) 15) && decide (bits .and .u8 (IntKind.u8.wrap (shrI .u64 a_1 24)) 15 ≤ IntKind.u8.wrap ((bits .and .u8 (IntKind.u8.wrap (shrI .u64 a_1 24)) 15) + 1))) then
               bif Nat.ble ((e6 a_1).size + (e7 a_1).size) 4611686018427387904 then
                bif inb (IntKind.u8.wrap ((shrI .u8 (IntKind.u8.wrap (shrI .u64 a_1 16)) 4) + 1)) 17 then
                 bif (decide (0 ≤ shrI .u8 (IntKind.u8.wrap (shrI .u64 a_1 16)) 4) && decide (shrI .u8 (IntKind.u8.wrap (shrI .u64 a_1 16)) 4 ≤ IntKind.u8.wrap ((shrI .u8 (IntKind.u8.wrap (shrI .u64 a_1 16)) 4) + 1))) then
                  bif inb (IntKind.u8.wrap ((bits .and .u8 (IntKind.u8.wrap (shrI .u64 a_1 16)) 15) + 1)) 17 then
                   bif (decide (0 ≤ bits .and .u8 (IntKind.u8.wrap (shrI .u64 a_1 16)) 15) && decide (bits .and .u8 (IntKind.u8.wrap (shrI .u64 a_1 16)) 15 ≤ IntKind.u8.wrap ((bits .and .u8 (IntKind.u8.wrap (shrI .u64 a_1 16)) 15) + 1))) then
                    bif Nat.ble ((e8 a_1).size + (e9 a_1).size) 4611686018427387904 then
                     bif inb (IntKind.u8.wrap ((shrI .u8 (IntKind.u8.wrap (shrI .u64 a_1 8)) 4) + 1)) 17 then
                      bif (decide (0 ≤ shrI .u8 (IntKind.u8.wrap (shrI .u64 a_1 8)) 4) && decide (shrI .u8 (IntKind.u8.wrap (shrI .u64 a_1 8)) 4 ≤ IntKind.u8.wrap ((shrI .u8 (IntKind.u8.wrap (shrI .u64 a_1 8)) 4) + 1))) then
                       bif inb (IntKind.u8.wrap ((bits .and .u8 (IntKind.u8.wrap (shrI .u64 a_1 8)) 15) + 1)) 17 then
                        bif (decide (0 ≤ bits .and .u8 (IntKind.u8.wrap (shrI .u64 a_1 8)) 15) && decide (bits .and .u8 (IntKind.u8.wrap (shrI .u64 a_1 8)) 15 ≤ IntKind.u8.wrap ((bits .and .u8 (IntKind.u8.wrap (shrI .u64 a_1 8)) 15) + 1))) then
                         bif Nat.ble ((e11 a_1).size + (e12 a_1).size) 4611686018427387904 then
                          bif inb (IntKind.u8.wrap ((shrI .u8 (IntKind.u8.wrap (shrI .u64 a_1 0)) 4) + 1)) 17 then
                           bif (decide (0 ≤ shrI .u8 (IntKind.u8.wrap (shrI .u64 a_1 0)) 4) && decide (shrI .u8 (IntKind.u8.wrap (shrI .u64 a_1 0)) 4 ≤ IntKind.u8.wrap ((shrI .u8 (IntKind.u8.wrap (shrI .u64 a_1 0)) 4) + 1))) then
                            bif inb (IntKind.u8.wrap ((bits .and .u8 (IntKind.u8.wrap (shrI .u64 a_1 0)) 15) + 1)) 17 then
                             bif (decide (0 ≤ bits .and .u8 (IntKind.u8.wrap (shrI .u64 a_1 0)) 15) && decide (bits .and .u8 (IntKind.u8.wrap (shrI .u64 a_1 0)) 15 ≤ IntKind.u8.wrap ((bits .and .u8 (IntKind.u8.wrap (shrI .u64 a_1 0)) 15) + 1))) then
                              bif Nat.ble ((e13 a_1).size + (e14 a_1).size) 4611686018427387904 then
                               bif joinOk 6 (e15 a_1) (⟨#[58]⟩ : ByteArray) then
                                k1 (joinS 6 (e15 a_1) (⟨#[58]⟩ : ByteArray))
                               else none /- test -/
                              else none /- test -/
                             else none /- test -/
                            else none /- test -/
                           else none /- test -/
                          else none /- test -/
                         else none /- test -/
                        else none /- test -/
                       else none /- test -/
                      else none /- test -/
                     else none /- test -/
                    else none /- test -/
                   else none /- test -/
                  else none /- test -/
                 else none /- test -/
                else none /- test -/
               else none /- test -/
              else none /- test -/
             else none /- test -/
            else none /- test -/
           else none /- test -/
          else none /- test -/
         else none /- test -/
        else none /- test -/
       else none /- test -/
      else none /- test -/
     else none /- test -/
    else none /- test -/
   else none /- test -/
  else none /- test -/
 else none /- test -/
def mac_Text {α : Type} (a_1 : Int) (k0 : Option α) (k1 : ByteArray → Option α) : Option α := mac_Text_T  a_1 k0 k1
def mac_Text_S  : List (Nat × Sm) := [(7, yes), (24, idxSm), (25, joinSm), (26, splitSm)]
def mac_Text_B  : Hooks := []
theorem mac_Text_eq  (a_1 : Int) (k : FK) : runS tt (has eql) Tryd.prog.funcs 1152921504606846976 (mac_Text_S ) (mac_Text_B ) opts 40 21 [.v (.c (.pv (.val (.int .u64 a_1))))] [] k = mac_Text_T  a_1 (k (.v (.c (.pv (.val (.string (⟨#[]⟩ : ByteArray)))))) []) (fun r0 => k (.v (.c (.pv (.val (.string r0))))) []) := by kernel_rfl
def mac_Text_p : PAr := ⟨[.v (.c (.pv (.int .u64 .h)))], []⟩
def mac_Text_F (h : List Hole) (k : FK) : Option Out := mac_Text (gI h 0) (k (.v (.c (.pv (.val (.string (⟨#[]⟩ : ByteArray)))))) []) (fun r0 => k (.v (.c (.pv (.val (.string r0))))) [])
theorem mac_Text_at (h : List Hole) : CallAt Tryd.prog 21 (arFill mac_Text_p h).1 (arFill mac_Text_p h).2 (mac_Text_F h) := by
  have e : arFill mac_Text_p h = ([.v (.c (.pv (.val (.int .u64 (gI h 0)))))], []) := by kernel_rfl
  rw [e]; exact callAt_of (runS_ok ttOk eqOk mixed (names_ok namesOk) (S := mac_Text_S ) (sums_cons yes7_ok (sums_cons idx_ok (sums_cons join_ok (sums_cons split_ok (sums_nil))))) (B := mac_Text_B ) (hooks_nil) opts 40) fun k => mac_Text_eq  _ k
def e16 (x0 : Int) : ByteArray := strOf 6 (fun j c => pvAt [.pv (.val (.int .u8 (IntKind.u8.wrap (shrI .u64 (x0.tmod 281474976710656) 40)))), .pv (.val (.int .u8 (IntKind.u8.wrap (shrI .u64 (x0.tmod 281474976710656) 32)))), .pv (.val (.int .u8 (IntKind.u8.wrap (shrI .u64 (x0.tmod 281474976710656) 24)))), .pv (.val (.int .u8 (IntKind.u8.wrap (shrI .u64 (x0.tmod 281474976710656) 16)))), .pv (.val (.int .u8 (IntKind.u8.wrap (shrI .u64 (x0.tmod 281474976710656) 8)))), .pv (.val (.int .u8 (IntKind.u8.wrap (shrI .u64 (x0.tmod 281474976710656) 0))))] (0 + j + c))
def e17 (x0 : Int) (x1 : Int) : Bool := ((Op.bytesLess (e16 x0).toList (e16 x1).toList) == (decide ((x0.tmod 281474976710656) < (x1.tmod 281474976710656))))
def e18 (x0 : ByteArray) (x1 : Int) (x2 : Int) : Bool := ((Op.bytesLess (⟨#[]⟩ : ByteArray).toList x0.toList) == (decide ((x1.tmod 281474976710656) < (x2.tmod 281474976710656))))
def e19 (x0 : ByteArray) (x1 : Int) (x2 : Int) : Bool := ((Op.bytesLess x0.toList (⟨#[]⟩ : ByteArray).toList) == (decide ((x1.tmod 281474976710656) < (x2.tmod 281474976710656))))
def e20 (x0 : ByteArray) (x1 : ByteArray) (x2 : Int) (x3 : Int) : Bool := ((Op.bytesLess x0.toList x1.toList) == (decide ((x2.tmod 281474976710656) < (x3.tmod 281474976710656))))
/- weirgate/weirgatelaw09.MacOrder -/
def law09_MacOrder_T {α : Type} (Gmac_Text : Int → (Option α) → (ByteArray → Option α) → Option α) (a_1 : Int) (a_2 : Int) (k0 : Option α) (k1 : Option α) : Option α := Gmac_Text (a_1.tmod 281474976710656)
  (Gmac_Text (a_2.tmod 281474976710656)
   (bif (false == (decide ((a_1.tmod 281474976710656) < (a_2.tmod 281474976710656)))) then
    bif e17 a_1 a_2 then
     k0
    else k1
   else k1)
   (fun r_3 => bif e18 r_3 a_1 a_2 then
    bif e17 a_1 a_2 then
     k0
    else k1
   else k1))
  (fun r_3 => Gmac_Text (a_2.tmod 281474976710656)
   (bif e19 r_3 a_1 a_2 then
    bif e17 a_1 a_2 then
     k0
    else k1
   else k1)
   (fun r_4 => bif e20 r_3 r_4 a_1 a_2 then
    bif e17 a_1 a_2 then
     k0
    else k1
   else k1))
def law09_MacOrder {α : Type} (a_1 : Int) (a_2 : Int) (k0 : Option α) (k1 : Option α) : Option α := law09_MacOrder_T mac_Text a_1 a_2 k0 k1
def law09_MacOrder_S (Gmac_Text : Int → (Option Out) → (ByteArray → Option Out) → Option Out) : List (Nat × Sm) := [(7, yes), (24, idxSm), (25, joinSm), (26, splitSm), (21, smOf [(mac_Text_p, fun h k => Gmac_Text (gI h 0) (k (.v (.c (.pv (.val (.string (⟨#[]⟩ : ByteArray)))))) []) (fun r0 => k (.v (.c (.pv (.val (.string r0))))) []))])]
def law09_MacOrder_B (Gmac_Text : Int → (Option Out) → (ByteArray → Option Out) → Option Out) : Hooks := []
theorem law09_MacOrder_eq (Gmac_Text : Int → (Option Out) → (ByteArray → Option Out) → Option Out) (a_1 : Int) (a_2 : Int) (k : FK) : runS tt (has eql) Tryd.prog.funcs 1152921504606846976 (law09_MacOrder_S Gmac_Text) (law09_MacOrder_B Gmac_Text) opts 40 6 [.v (.c (.pv (.val (.int .u64 a_1)))), .v (.c (.pv (.val (.int .u64 a_2))))] [] k = law09_MacOrder_T Gmac_Text a_1 a_2 (k (.v (.c (.pv (.val (.bool true))))) []) (k (.v (.c (.pv (.val (.bool false))))) []) := by kernel_rfl
def law09_MacOrder_p : PAr := ⟨[.v (.c (.pv (.int .u64 .h))), .v (.c (.pv (.int .u64 .h)))], []⟩
def law09_MacOrder_F (h : List Hole) (k : FK) : Option Out := law09_MacOrder (gI h 0) (gI h 1) (k (.v (.c (.pv (.val (.bool true))))) []) (k (.v (.c (.pv (.val (.bool false))))) [])
theorem law09_MacOrder_at (h : List Hole) : CallAt Tryd.prog 6 (arFill law09_MacOrder_p h).1 (arFill law09_MacOrder_p h).2 (law09_MacOrder_F h) := by
  have e : arFill law09_MacOrder_p h = ([.v (.c (.pv (.val (.int .u64 (gI h 0))))), .v (.c (.pv (.val (.int .u64 (gI h 1)))))], []) := by kernel_rfl
  rw [e]; exact callAt_of (runS_ok ttOk eqOk mixed (names_ok namesOk) (S := law09_MacOrder_S mac_Text) (sums_cons yes7_ok (sums_cons idx_ok (sums_cons join_ok (sums_cons split_ok (sums_cons (smOf_ok (alts_cons mac_Text_at alts_nil)) (sums_nil)))))) (B := law09_MacOrder_B mac_Text) (hooks_nil) opts 40) fun k => law09_MacOrder_eq mac_Text _ _ k
theorem call_ok : CallSem Tryd.prog (runS tt (has eql) Tryd.prog.funcs 1152921504606846976 (law09_MacOrder_S mac_Text) (law09_MacOrder_B mac_Text) opts 40) := runS_ok ttOk eqOk mixed (names_ok namesOk) (S := law09_MacOrder_S mac_Text) (sums_cons yes7_ok (sums_cons idx_ok (sums_cons join_ok (sums_cons split_ok (sums_cons (smOf_ok (alts_cons mac_Text_at alts_nil)) (sums_nil)))))) (B := law09_MacOrder_B mac_Text) (hooks_nil) opts 40
theorem law_eq (a_1 : Int) (a_2 : Int) (k : FK) : runS tt (has eql) Tryd.prog.funcs 1152921504606846976 (law09_MacOrder_S mac_Text) (law09_MacOrder_B mac_Text) opts 40 6 [.v (.c (.pv (.val (.int .u64 a_1)))), .v (.c (.pv (.val (.int .u64 a_2))))] [] k = law09_MacOrder a_1 a_2 (k (.v (.c (.pv (.val (.bool true))))) []) (k (.v (.c (.pv (.val (.bool false))))) []) := law09_MacOrder_eq mac_Text a_1 a_2 k
end Go.Proofs.YtampnnhdgnhjaaaDoor.MacOrder

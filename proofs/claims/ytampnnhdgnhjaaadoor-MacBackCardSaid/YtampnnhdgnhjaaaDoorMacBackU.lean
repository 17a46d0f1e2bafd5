/- MacBack: the code of the law and of all that it calls, told by functions over numbers and rows. WRITTEN BY gen.py. -/
import Derived.Test.YtampnnhdgnhjaaaDoorHand
set_option linter.unusedVariables false
namespace Go.Proofs.YtampnnhdgnhjaaaDoor.MacBack
open Go.Ve
set_option maxRecDepth 100000
theorem wakes_eq (k : AV → List AObj → Option Out) : runS tt (has eql) Tryd.prog.funcs 100000 [(24, idxSm), (25, joinSm), (26, splitSm)] [] opts 40 7 [] [] k = k (.b true) [] := by kernel_rfl
theorem yes7_ok : SumOk Tryd.prog 7 yes := SumOk.yes (runS_ok ttOk eqOk mixed (names_ok namesOk) (S := [(24, idxSm), (25, joinSm), (26, splitSm)]) (sums_cons idx_ok (sums_cons join_ok (sums_cons split_ok (sums_nil)))) hooks_nil opts 40) wakes_eq
def e1 (x0 : Int) (x1 : Int) : Int := bits .or .u64 (shlI .u64 (bits .or .u64 0 (IntKind.u64.wrap x0)) 8) (IntKind.u64.wrap x1)
def e2 (x0 : Int) (x1 : Int) (x2 : Int) (x3 : Int) : Int := bits .or .u64 (shlI .u64 (bits .or .u64 (shlI .u64 (e1 x0 x1) 8) (IntKind.u64.wrap x2)) 8) (IntKind.u64.wrap x3)
def e3 (x0 : Int) (x1 : Int) (x2 : Int) (x3 : Int) (x4 : Int) (x5 : Int) : Int := bits .or .u64 (shlI .u64 (bits .or .u64 (shlI .u64 (e2 x0 x1 x2 x3) 8) (IntKind.u64.wrap x4)) 8) (IntKind.u64.wrap x5)
def e4 (x0 : Int) : Int := bits .or .u64 0 (IntKind.u64.wrap (IntKind.u8.wrap (shrI .u64 (x0.tmod 281474976710656) 40)))
def e5 (x0 : Int) : Int := bits .or .u64 (shlI .u64 (e4 x0) 8) (IntKind.u64.wrap (IntKind.u8.wrap (shrI .u64 (x0.tmod 281474976710656) 32)))
def e6 (x0 : Int) : Int := bits .or .u64 (shlI .u64 (e5 x0) 8) (IntKind.u64.wrap (IntKind.u8.wrap (shrI .u64 (x0.tmod 281474976710656) 24)))
def e7 (x0 : Int) : Int := bits .or .u64 (shlI .u64 (e6 x0) 8) (IntKind.u64.wrap (IntKind.u8.wrap (shrI .u64 (x0.tmod 281474976710656) 16)))
def e8 (x0 : Int) : Int := bits .or .u64 (shlI .u64 (e7 x0) 8) (IntKind.u64.wrap (IntKind.u8.wrap (shrI .u64 (x0.tmod 281474976710656) 8)))
def e9 (x0 : Int) : Int := bits .or .u64 (shlI .u64 (e8 x0) 8) (IntKind.u64.wrap (IntKind.u8.wrap (shrI .u64 (x0.tmod 281474976710656) 0)))
def e10 (x0 : Int) : ByteArray := (⟨#[48, 49, 50, 51, 52, 53, 54, 55, 56, 57, 97, 98, 99, 100, 101, 102]⟩ : ByteArray).extract ((shrI .u8 (IntKind.u8.wrap (shrI .u64 x0 40)) 4).toNat) (((shrI .u8 (IntKind.u8.wrap (shrI .u64 x0 40)) 4).toNat) + (((IntKind.u8.wrap ((shrI .u8 (IntKind.u8.wrap (shrI .u64 x0 40)) 4) + 1)).toNat) - ((shrI .u8 (IntKind.u8.wrap (shrI .u64 x0 40)) 4).toNat)))
def e11 (x0 : Int) : ByteArray := (⟨#[48, 49, 50, 51, 52, 53, 54, 55, 56, 57, 97, 98, 99, 100, 101, 102]⟩ : ByteArray).extract ((bits .and .u8 (IntKind.u8.wrap (shrI .u64 x0 40)) 15).toNat) (((bits .and .u8 (IntKind.u8.wrap (shrI .u64 x0 40)) 15).toNat) + (((IntKind.u8.wrap ((bits .and .u8 (IntKind.u8.wrap (shrI .u64 x0 40)) 15) + 1)).toNat) - ((bits .and .u8 (IntKind.u8.wrap (shrI .u64 x0 40)) 15).toNat)))
def e12 (x0 : Int) : ByteArray := (⟨#[48, 49, 50, 51, 52, 53, 54, 55, 56, 57, 97, 98, 99, 100, 101, 102]⟩ : ByteArray).extract ((shrI .u8 (IntKind.u8.wrap (shrI .u64 x0 32)) 4).toNat) (((shrI .u8 (IntKind.u8.wrap (shrI .u64 x0 32)) 4).toNat) + (((IntKind.u8.wrap ((shrI .u8 (IntKind.u8.wrap (shrI .u64 x0 32)) 4) + 1)).toNat) - ((shrI .u8 (IntKind.u8.wrap (shrI .u64 x0 32)) 4).toNat)))
def e13 (x0 : Int) : ByteArray := (⟨#[48, 49, 50, 51, 52, 53, 54, 55, 56, 57, 97, 98, 99, 100, 101, 102]⟩ : ByteArray).extract ((bits .and .u8 (IntKind.u8.wrap (shrI .u64 x0 32)) 15).toNat) (((bits .and .u8 (IntKind.u8.wrap (shrI .u64 x0 32)) 15).toNat) + (((IntKind.u8.wrap ((bits .and .u8 (IntKind.u8.wrap (shrI .u64 x0 32)) 15) + 1)).toNat) - ((bits .and .u8 (IntKind.u8.wrap (shrI .u64 x0 32)) 15).toNat)))
def e14 (x0 : Int) : Nat → Nat → PV := catf 1 (rowOf 1 [.val (.string ((e10 x0) ++ (e11 x0)))]) (rowOf 1 [.val (.string ((e12 x0) ++ (e13 x0)))])
def e15 (x0 : Int) : ByteArray := (⟨#[48, 49, 50, 51, 52, 53, 54, 55, 56, 57, 97, 98, 99, 100, 101, 102]⟩ : ByteArray).extract ((shrI .u8 (IntKind.u8.wrap (shrI .u64 x0 24)) 4).toNat) (((shrI .u8 (IntKind.u8.wrap (shrI .u64 x0 24)) 4).toNat) + (((IntKind.u8.wrap ((shrI .u8 (IntKind.u8.wrap (shrI .u64 x0 24)) 4) + 1)).toNat) - ((shrI .u8 (IntKind.u8.wrap (shrI .u64 x0 24)) 4).toNat)))
def e16 (x0 : Int) : ByteArray := (⟨#[48, 49, 50, 51, 52, 53, 54, 55, 56, 57, 97, 98, 99, 100, 101, 102]⟩ : ByteArray).extract ((bits .and .u8 (IntKind.u8.wrap (shrI .u64 x0 24)) 15).toNat) (((bits .and .u8 (IntKind.u8.wrap (shrI .u64 x0 24)) 15).toNat) + (((IntKind.u8.wrap ((bits .and .u8 (IntKind.u8.wrap (shrI .u64 x0 24)) 15) + 1)).toNat) - ((bits .and .u8 (IntKind.u8.wrap (shrI .u64 x0 24)) 15).toNat)))
def e17 (x0 : Int) : ByteArray := (⟨#[48, 49, 50, 51, 52, 53, 54, 55, 56, 57, 97, 98, 99, 100, 101, 102]⟩ : ByteArray).extract ((shrI .u8 (IntKind.u8.wrap (shrI .u64 x0 16)) 4).toNat) (((shrI .u8 (IntKind.u8.wrap (shrI .u64 x0 16)) 4).toNat) + (((IntKind.u8.wrap ((shrI .u8 (IntKind.u8.wrap (shrI .u64 x0 16)) 4) + 1)).toNat) - ((shrI .u8 (IntKind.u8.wrap (shrI .u64 x0 16)) 4).toNat)))
def e18 (x0 : Int) : ByteArray := (⟨#[48, 49, 50, 51, 52, 53, 54, 55, 56, 57, 97, 98, 99, 100, 101, 102]⟩ : ByteArray).extract ((bits .and .u8 (IntKind.u8.wrap (shrI .u64 x0 16)) 15).toNat) (((bits .and .u8 (IntKind.u8.wrap (shrI .u64 x0 16)) 15).toNat) + (((IntKind.u8.wrap ((bits .and .u8 (IntKind.u8.wrap (shrI .u64 x0 16)) 15) + 1)).toNat) - ((bits .and .u8 (IntKind.u8.wrap (shrI .u64 x0 16)) 15).toNat)))
def e19 (x0 : Int) : Nat → Nat → PV := catf 3 (catf 2 (e14 x0) (rowOf 1 [.val (.string ((e15 x0) ++ (e16 x0)))])) (rowOf 1 [.val (.string ((e17 x0) ++ (e18 x0)))])
def e20 (x0 : Int) : ByteArray := (⟨#[48, 49, 50, 51, 52, 53, 54, 55, 56, 57, 97, 98, 99, 100, 101, 102]⟩ : ByteArray).extract ((shrI .u8 (IntKind.u8.wrap (shrI .u64 x0 8)) 4).toNat) (((shrI .u8 (IntKind.u8.wrap (shrI .u64 x0 8)) 4).toNat) + (((IntKind.u8.wrap ((shrI .u8 (IntKind.u8.wrap (shrI .u64 x0 8)) 4) + 1)).toNat) - ((shrI .u8 (IntKind.u8.wrap (shrI .u64 x0 8)) 4).toNat)))
def e21 (x0 : Int) : ByteArray := (⟨#[48, 49, 50, 51, 52, 53, 54, 55, 56, 57, 97, 98, 99, 100, 101, 102]⟩ : ByteArray).extract ((bits .and .u8 (IntKind.u8.wrap (shrI .u64 x0 8)) 15).toNat) (((bits .and .u8 (IntKind.u8.wrap (shrI .u64 x0 8)) 15).toNat) + (((IntKind.u8.wrap ((bits .and .u8 (IntKind.u8.wrap (shrI .u64 x0 8)) 15) + 1)).toNat) - ((bits .and .u8 (IntKind.u8.wrap (shrI .u64 x0 8)) 15).toNat)))
def e22 (x0 : Int) : ByteArray := (⟨#[48, 49, 50, 51, 52, 53, 54, 55, 56, 57, 97, 98, 99, 100, 101, 102]⟩ : ByteArray).extract ((shrI .u8 (IntKind.u8.wrap (shrI .u64 x0 0)) 4).toNat) (((shrI .u8 (IntKind.u8.wrap (shrI .u64 x0 0)) 4).toNat) + (((IntKind.u8.wrap ((shrI .u8 (IntKind.u8.wrap (shrI .u64 x0 0)) 4) + 1)).toNat) - ((shrI .u8 (IntKind.u8.wrap (shrI .u64 x0 0)) 4).toNat)))
def e23 (x0 : Int) : ByteArray := (⟨#[48, 49, 50, 51, 52, 53, 54, 55, 56, 57, 97, 98, 99, 100, 101, 102]⟩ : ByteArray).extract ((bits .and .u8 (IntKind.u8.wrap (shrI .u64 x0 0)) 15).toNat) (((bits .and .u8 (IntKind.u8.wrap (shrI .u64 x0 0)) 15).toNat) + (((IntKind.u8.wrap ((bits .and .u8 (IntKind.u8.wrap (shrI .u64 x0 0)) 15) + 1)).toNat) - ((bits .and .u8 (IntKind.u8.wrap (shrI .u64 x0 0)) 15).toNat)))
def e24 (x0 : Int) : Nat → Nat → PV := catf 5 (catf 4 (e19 x0) (rowOf 1 [.val (.string ((e20 x0) ++ (e21 x0)))])) (rowOf 1 [.val (.string ((e22 x0) ++ (e23 x0)))])
/- weirgate/mac.Text -/
def mac_Text_T {α : Type}  (a_1 : Int) (k0 : Option α) (k1 : ByteArray → Option α) : Option α := bif !((shrI .u64 a_1 48) == 0) then
  k0
 else bif inb (IntKind.u8.wrap ((shrI .u8 (IntKind.u8.wrap (shrI .u64 a_1 40)) 4) + 1)) 17 then
  bif (decide (0 ≤ shrI .u8 (IntKind.u8.wrap (shrI .u64 a_1 40)) 4) && decide (shrI .u8 (IntKind.u8.wrap (shrI .u64 a_1 40)) 4 ≤ IntKind.u8.wrap ((shrI .u8 (IntKind.u8.wrap (shrI .u64 a_1 40)) 4) + 1))) then
   bif inb (IntKind.u8.wrap ((bits .and .u8 (IntKind.u8.wrap (shrI .u64 a_1 40)) 15) + 1)) 17 then
    bif (decide (0 ≤ bits .and .u8 (IntKind.u8.wrap (shrI .u64 a_1 40)) 15) && decide (bits .and .u8 (IntKind.u8.wrap (shrI .u64 a_1 40)) 15 ≤ IntKind.u8.wrap ((bits .and .u8 (IntKind.u8.wrap (shrI .u64 a_1 40)) 15) + 1))) then
     bif Nat.ble ((e10 a_1).size + (e11 a_1).size) 4611686018427387904 then
      bif inb (IntKind.u8.wrap ((shrI .u8 (IntKind.u8.wrap (shrI .u64 a_1 32)) 4) + 1)) 17 then
       bif (decide (0 ≤ shrI .u8 (IntKind.u8.wrap (shrI .u64 a_1 32)) 4) && decide (shrI .u8 (IntKind.u8.wrap (shrI .u64 a_1 32)) 4 ≤ IntKind.u8.wrap ((shrI .u8 (IntKind.u8.wrap (shrI .u64 a_1 32)) 4) + 1))) then
        bif inb (IntKind.u8.wrap ((bits .and .u8 (IntKind.u8.wrap (shrI .u64 a_1 32)) 15) + 1)) 17 then
         bif (decide (0 ≤ bits .and .u8 (IntKind.u8.wrap (shrI .u64 a_1 32)) 15) && decide (bits .and .u8 (IntKind.u8.wrap (shrI .u64 a_1 32)) 15 ≤ IntKind.u8.wrap ((bits .and .u8 (IntKind.u8.wrap (shrI .u64 a_1 32)) 15) + 1))) then
          bif Nat.ble ((e12 a_1).size + (e13 a_1).size) 4611686018427387904 then
           bif inb (IntKind.u8.wrap ((shrI .u8 (IntKind.u8.wrap (shrI .u64 a_1 24)) 4) + 1)) 17 then
            bif (decide (0 ≤ shrI .u8 (IntKind.u8.wrap (shrI .u64 a_1 24)) 4) && decide (shrI .u8 (IntKind.u8.wrap (shrI .u64 a_1 24)) 4 ≤ IntKind.u8.wrap ((shrI .u8 (IntKind.u8.wrap (shrI .u64 a_1 24)) 4) + 1))) then
             bif inb (IntKind.u8.wrap ((bits .and .u8 (IntKind.u8.wrap (shrI .u64 a_1 24)) 15) + 1)) 17 then
              bif (decide (0 ≤ bits .and .u8 (IntKind.u8.wrap (shrI .u64 a_1 24)) 15) && decide (bits .and .u8 (IntKind.u8.wrap (shrI .u64 a_1 24)) 15 ≤ IntKind.u8.wrap ((bits .and .u8 (IntKind.u8.wrap (shrI .u64 a_1 24)) 15) + 1))) then
               bif Nat.ble ((e15 a_1).size + (e16 a_1).size) 4611686018427387904 then
                bif inb (IntKind.u8.wrap ((shrI .u8 (IntKind.u8.wrap (shrI .u64 a_1 16)) 4) + 1)) 17 then
                 bif (decide (0 ≤ shrI .u8 (IntKind.u8.wrap (shrI .u64 a_1 16)) 4) && decide (shrI .u8 (IntKind.u8.wrap (shrI .u64 a_1 16)) 4 ≤ IntKind.u8.wrap ((shrI .u8 (IntKind.u8.wrap (shrI .u64 a_1 16)) 4) + 1))) then
                  bif inb (IntKind.u8.wrap ((bits .and .u8 (IntKind.u8.wrap (shrI .u64 a_1 16)) 15) + 1)) 17 then
                   bif (decide (0 ≤ bits .and .u8 (IntKind.u8.wrap (shrI .u64 a_1 16)) 15) && decide (bits .and .u8 (IntKind.u8.wrap (shrI .u64 a_1 16)) 15 ≤ IntKind.u8.wrap ((bits .and .u8 (IntKind.u8.wrap (shrI .u64 a_1 16)) 15) + 1))) then
                    bif Nat.ble ((e17 a_1).size + (e18 a_1).size) 4611686018427387904 then
                     bif inb (IntKind.u8.wrap ((shrI .u8 (IntKind.u8.wrap (shrI .u64 a_1 8)) 4) + 1)) 17 then
                      bif (decide (0 ≤ shrI .u8 (IntKind.u8.wrap (shrI .u64 a_1 8)) 4) && decide (shrI .u8 (IntKind.u8.wrap (shrI .u64 a_1 8)) 4 ≤ IntKind.u8.wrap ((shrI .u8 (IntKind.u8.wrap (shrI .u64 a_1 8)) 4) + 1))) then
                       bif inb (IntKind.u8.wrap ((bits .and .u8 (IntKind.u8.wrap (shrI .u64 a_1 8)) 15) + 1)) 17 then
                        bif (decide (0 ≤ bits .and .u8 (IntKind.u8.wrap (shrI .u64 a_1 8)) 15) && decide (bits .and .u8 (IntKind.u8.wrap (shrI .u64 a_1 8)) 15 ≤ IntKind.u8.wrap ((bits .and .u8 (IntKind.u8.wrap (shrI .u64 a_1 8)) 15) + 1))) then
                         bif Nat.ble ((e20 a_1).size + (e21 a_1).size) 4611686018427387904 then
                          bif inb (IntKind.u8.wrap ((shrI .u8 (IntKind.u8.wrap (shrI .u64 a_1 0)) 4) + 1)) 17 then
                           bif (decide (0 ≤ shrI .u8 (IntKind.u8.wrap (shrI .u64 a_1 0)) 4) && decide (shrI .u8 (IntKind.u8.wrap (shrI .u64 a_1 0)) 4 ≤ IntKind.u8.wrap ((shrI .u8 (IntKind.u8.wrap (shrI .u64 a_1 0)) 4) + 1))) then
                            bif inb (IntKind.u8.wrap ((bits .and .u8 (IntKind.u8.wrap (shrI .u64 a_1 0)) 15) + 1)) 17 then
                             bif (decide (0 ≤ bits .and .u8 (IntKind.u8.wrap (shrI .u64 a_1 0)) 15) && decide (bits .and .u8 (IntKind.u8.wrap (shrI .u64 a_1 0)) 15 ≤ IntKind.u8.wrap ((bits .and .u8 (IntKind.u8.wrap (shrI .u64 a_1 0)) 15) + 1))) then
                              bif Nat.ble ((e22 a_1).size + (e23 a_1).size) 4611686018427387904 then
                               bif joinOk 6 (e24 a_1) (⟨#[58]⟩ : ByteArray) then
                                k1 (joinS 6 (e24 a_1) (⟨#[58]⟩ : ByteArray))
                               else none /- test -/
                              else none /- test -/
                             else none /- test -/
                            else none /- test -/
                           else none /- test -/
                          else none /- test -/
                         else none /- test -/
                        else none /- test -/
                       else none /- test -/
                      else none /- test -/
                     else none /- test -/
                    else none /- test -/
                   else none /- test -/
                  else none /- test -/
                 else none /- test -/
                else none /- test -/
               else none /- test -/
              else none /- test -/
             else none /- test -/
            else none /- test -/
           else none /- test -/
          else none /- test -/
         else none /- test -/
        else none /- test -/
       else none /- test -/
      else none /- test -/
     else none /- test -/
    else none /- test -/
   else none /- test -/
  else none /- test -/
 else none /- test -/
def mac_Text {α : Type} (a_1 : Int) (k0 : Option α) (k1 : ByteArray → Option α) : Option α := mac_Text_T  a_1 k0 k1
def mac_Text_S  : List (Nat × Sm) := [(7, yes), (24, idxSm), (25, joinSm), (26, splitSm)]
def mac_Text_B  : Hooks := []
theorem mac_Text_eq  (a_1 : Int) (k : FK) : runS tt (has eql) Tryd.prog.funcs 1152921504606846976 (mac_Text_S ) (mac_Text_B ) opts 40 21 [.v (.c (.pv (.val (.int .u64 a_1))))] [] k = mac_Text_T  a_1 (k (.v (.c (.pv (.val (.string (⟨#[]⟩ : ByteArray)))))) []) (fun r0 => k (.v (.c (.pv (.val (.string r0))))) []) := by kernel_rfl
def mac_Text_p : PAr := ⟨[.v (.c (.pv (.int .u64 .h)))], []⟩
def mac_Text_F (h : List Hole) (k : FK) : Option Out := mac_Text (gI h 0) (k (.v (.c (.pv (.val (.string (⟨#[]⟩ : ByteArray)))))) []) (fun r0 => k (.v (.c (.pv (.val (.string r0))))) [])
theorem mac_Text_at (h : List Hole) : CallAt Tryd.prog 21 (arFill mac_Text_p h).1 (arFill mac_Text_p h).2 (mac_Text_F h) := by
  have e : arFill mac_Text_p h = ([.v (.c (.pv (.val (.int .u64 (gI h 0)))))], []) := by kernel_rfl
  rw [e]; exact callAt_of (runS_ok ttOk eqOk mixed (names_ok namesOk) (S := mac_Text_S ) (sums_cons yes7_ok (sums_cons idx_ok (sums_cons join_ok (sums_cons split_ok (sums_nil))))) (B := mac_Text_B ) (hooks_nil) opts 40) fun k => mac_Text_eq  _ k
def e25 (x0 : Nat → Nat → PV) : Int := Lib.indexByte (⟨#[48, 49, 50, 51, 52, 53, 54, 55, 56, 57, 97, 98, 99, 100, 101, 102]⟩ : ByteArray).data.toList (bt (textOf (x0 0 0)) 0).toNat.toUInt8
def e26 (x0 : Nat → Nat → PV) : Int := Lib.indexByte (⟨#[48, 49, 50, 51, 52, 53, 54, 55, 56, 57, 97, 98, 99, 100, 101, 102]⟩ : ByteArray).data.toList (bt (textOf (x0 0 0)) 1).toNat.toUInt8
def e27 (x0 : Nat → Nat → PV) : Nat → Nat → PV := rowOf 1 [.val (.int .u8 (IntKind.u8.wrap (bits .or .i64 (shlI .i64 (e25 x0) 4) (e26 x0))))]
def e28 (x0 : Nat → Nat → PV) (x1 : Int) : Int := Lib.indexByte (⟨#[48, 49, 50, 51, 52, 53, 54, 55, 56, 57, 97, 98, 99, 100, 101, 102]⟩ : ByteArray).data.toList (bt (textOf (x0 x1.toNat 0)) 0).toNat.toUInt8
def e29 (x0 : Nat → Nat → PV) (x1 : Int) : Int := Lib.indexByte (⟨#[48, 49, 50, 51, 52, 53, 54, 55, 56, 57, 97, 98, 99, 100, 101, 102]⟩ : ByteArray).data.toList (bt (textOf (x0 x1.toNat 0)) 1).toNat.toUInt8
def e30 (x0 : Nat → Nat → PV) (x1 : Int) : Nat → Nat → PV := rowOf 1 [.val (.int .u8 (IntKind.u8.wrap (bits .or .i64 (shlI .i64 (e28 x0 x1) 4) (e29 x0 x1))))]
/- weirgate/mac.Parse: loop 0 -/
def mac_Parse_L0_S  : List (Nat × Sm) := [(7, yes), (24, idxSm), (25, joinSm), (26, splitSm)]
def mac_Parse_L0_B  : Hooks := []
noncomputable def mac_Parse_L0_C  : Ctx := { tt := tt, eqs := has eql, call := runS tt (has eql) Tryd.prog.funcs 1152921504606846976 (mac_Parse_L0_S ) (mac_Parse_L0_B ) opts 40, fuel := 1152921504606846976, blk := fun i => aget [] i, bor := opts.bor }
def mac_Parse_L0_lo : Vx → List Nat := fun | .normal => [4] | .exit j => (fun _ => []) j | .ret => [2, 3]
def mac_Parse_L0_h0 (a_1 : Int) (a_2 : Int) (a_3 : Bool) (a_4 : Nat) (a_5 : Nat → Nat → PV) (a_6 : Nat) (a_7 : Nat → Nat → PV) : St := { n := 44, m := 0, t := [(4, .v (.c (.own 0))), (10, .v (.c (.own 1))), (11, .v (.c (.pv (.val (.int .i64 a_1))))), (12, .v (.c (.pv (.val (.int .i64 a_2)))))], h := [(0, .parr false a_3 (.int .u8 .nil) 1 a_4 (a_5)), (1, .parr false false (.str .nil) 1 a_6 (a_7))], nx := 2 }
def mac_Parse_L0_x0  : St := { n := 44, m := 0, t := [(2, .v (.c (.pv (.val (.int .u64 0))))), (3, .v (.c (.pv (.val (.int .i64 11)))))], h := [], nx := 0 }
def mac_Parse_L0_x1 (r0 : Bool) (r1 : Nat) (r2 : Nat → Nat → PV) : St := { n := 44, m := 0, t := [(4, .v (.c (.own 0)))], h := [(0, .parr false r0 (.int .u8 .nil) 1 r1 (r2))], nx := 1 }
def mac_Parse_L0_s0 {α : Type}  (rec0 : Int → Int → Bool → Nat → (Nat → Nat → PV) → Nat → (Nat → Nat → PV) → Option α) (k0 : Option α) (k1 : Bool → Nat → (Nat → Nat → PV) → Option α) (a_1 : Int) (a_2 : Int) (a_3 : Bool) (a_4 : Nat) (a_5 : Nat → Nat → PV) (a_6 : Nat) (a_7 : Nat → Nat → PV) : Option α := bif decide (a_2 < a_1) then
  bif inb a_2 a_6 then
   bif ((((textOf (a_7 a_2.toNat 0)).size : Nat) : Int) != 2) then
    k0
   else bif inb 0 ((textOf (a_7 a_2.toNat 0)).size) then
    bif inb 1 ((textOf (a_7 a_2.toNat 0)).size) then
     bif decide ((e28 a_7 a_2) < 0) then
      k0
     else bif decide ((e29 a_7 a_2) < 0) then
      k0
     else bif Nat.ble ((a_4 + 1) * 1) bound then
      rec0 a_1 (IntKind.i64.wrap (a_2 + 1)) (a_3 && false) (a_4 + 1) (catf a_4 (a_5) (e30 a_7 a_2)) a_6 a_7
     else none /- test -/
    else none /- test -/
   else none /- test -/
  else none /- test -/
 else k1 a_3 a_4 a_5
def mac_Parse_L0_l0 {α : Type} (k0 : Option α) (k1 : Bool → Nat → (Nat → Nat → PV) → Option α) : Nat → Int → Int → Bool → Nat → (Nat → Nat → PV) → Nat → (Nat → Nat → PV) → Option α
  | 0 => fun _ _ _ _ _ _ _ => none
  | n + 1 => mac_Parse_L0_s0  (mac_Parse_L0_l0 k0 k1 n) k0 k1
theorem mac_Parse_L0_s0_eq  (k : Kont) (n : Nat) (a_1 : Int) (a_2 : Int) (a_3 : Bool) (a_4 : Nat) (a_5 : Nat → Nat → PV) (a_6 : Nat) (a_7 : Nat → Nat → PV) : loopN (fun st k => exec (mac_Parse_L0_C ) (loopBody (codeAt Tryd.f11 0)) st k) [4, 10, 11, 12] (loopK 0 (kn mac_Parse_L0_lo k)) (n + 1) (mac_Parse_L0_h0 a_1 a_2 a_3 a_4 a_5 a_6 a_7) = mac_Parse_L0_s0  (fun a_1 a_2 a_3 a_4 a_5 a_6 a_7 => loopN (fun st k => exec (mac_Parse_L0_C ) (loopBody (codeAt Tryd.f11 0)) st k) [4, 10, 11, 12] (loopK 0 (kn mac_Parse_L0_lo k)) n (mac_Parse_L0_h0 a_1 a_2 a_3 a_4 a_5 a_6 a_7)) (k .ret (mac_Parse_L0_x0)) (fun r0 r1 r2 => k .normal (mac_Parse_L0_x1 r0 r1 r2)) a_1 a_2 a_3 a_4 a_5 a_6 a_7 := by kernel_rfl
theorem mac_Parse_L0_l0_eq (k : Kont) : ∀ (n : Nat) (a_1 : Int) (a_2 : Int) (a_3 : Bool) (a_4 : Nat) (a_5 : Nat → Nat → PV) (a_6 : Nat) (a_7 : Nat → Nat → PV), loopN (fun st k => exec (mac_Parse_L0_C ) (loopBody (codeAt Tryd.f11 0)) st k) [4, 10, 11, 12] (loopK 0 (kn mac_Parse_L0_lo k)) n (mac_Parse_L0_h0 a_1 a_2 a_3 a_4 a_5 a_6 a_7) = mac_Parse_L0_l0 (k .ret (mac_Parse_L0_x0)) (fun r0 r1 r2 => k .normal (mac_Parse_L0_x1 r0 r1 r2)) n a_1 a_2 a_3 a_4 a_5 a_6 a_7
  | 0, _, _, _, _, _, _, _ => rfl
  | n + 1, a_1, a_2, a_3, a_4, a_5, a_6, a_7 => by
    have r0 : (fun a_1 a_2 a_3 a_4 a_5 a_6 a_7 => loopN (fun st k => exec (mac_Parse_L0_C ) (loopBody (codeAt Tryd.f11 0)) st k) [4, 10, 11, 12] (loopK 0 (kn mac_Parse_L0_lo k)) n (mac_Parse_L0_h0 a_1 a_2 a_3 a_4 a_5 a_6 a_7)) = mac_Parse_L0_l0 (k .ret (mac_Parse_L0_x0)) (fun r0 r1 r2 => k .normal (mac_Parse_L0_x1 r0 r1 r2)) n := funext fun a_1 => funext fun a_2 => funext fun a_3 => funext fun a_4 => funext fun a_5 => funext fun a_6 => funext fun a_7 => mac_Parse_L0_l0_eq k n a_1 a_2 a_3 a_4 a_5 a_6 a_7
    exact (mac_Parse_L0_s0_eq  k n a_1 a_2 a_3 a_4 a_5 a_6 a_7).trans (by rw [r0]; rfl)
def mac_Parse_L0 {α : Type} (a_1 : Int) (a_2 : Nat → Nat → PV) (a_3 : Nat) (a_4 : Nat → Nat → PV) (k0 : Option α) (k1 : Bool → Nat → (Nat → Nat → PV) → Option α) : Option α := mac_Parse_L0_l0 k0 k1 1152921504606846976 a_1 0 true 0 a_2 a_3 a_4
def mac_Parse_L0_e (a_1 : Int) (a_2 : Nat → Nat → PV) (a_3 : Nat) (a_4 : Nat → Nat → PV) : St := { n := 44, m := 0, t := [(4, .v (.c (.own 0))), (10, .v (.c (.own 1))), (11, .v (.c (.pv (.val (.int .i64 a_1))))), (12, .v (.c (.pv (.val (.int .i64 0)))))], h := [(0, .parr false true (.int .u8 .nil) 1 0 (a_2)), (1, .parr false false (.str .nil) 1 a_3 (a_4))], nx := 2 }
theorem mac_Parse_L0_eq (a_1 : Int) (a_2 : Nat → Nat → PV) (a_3 : Nat) (a_4 : Nat → Nat → PV) (k : Kont) : exec (mac_Parse_L0_C ) (codeAt Tryd.f11 0) (mac_Parse_L0_e a_1 a_2 a_3 a_4) (kn mac_Parse_L0_lo k) = mac_Parse_L0 a_1 a_2 a_3 a_4 (k .ret (mac_Parse_L0_x0)) (fun r0 r1 r2 => k .normal (mac_Parse_L0_x1 r0 r1 r2)) :=
  (by kernel_rfl : _ = loopN (fun st k => exec (mac_Parse_L0_C ) (loopBody (codeAt Tryd.f11 0)) st k) [4, 10, 11, 12] (loopK 0 (kn mac_Parse_L0_lo k)) 1152921504606846976 (mac_Parse_L0_h0 a_1 0 true 0 a_2 a_3 a_4)).trans (mac_Parse_L0_l0_eq k 1152921504606846976 a_1 0 true 0 a_2 a_3 a_4)
def mac_Parse_L0_p : PSt := { n := 44, m := 0, t := [(4, .v (.c (.own 0))), (10, .v (.c (.own 1))), (11, .v (.c (.pv (.int .i64 .h)))), (12, .v (.c (.pv (.int .i64 (.l 0)))))], h := [(0, .parr (.l false) (.l true) (.int .u8 .nil) 1 (.l 0)), (1, .parr (.l false) (.l false) (.str .nil) 1 .h)], nx := 2 }
def mac_Parse_L0_F (h : List Hole) (k : Kont) : Option Out := mac_Parse_L0 (gI h 0) (gF h 1) (gN h 2) (gF h 3) (k .ret (mac_Parse_L0_x0)) (fun r0 r1 r2 => k .normal (mac_Parse_L0_x1 r0 r1 r2))
theorem mac_Parse_L0_at (h : List Hole) : BodyAt Tryd.prog (codeAt Tryd.f11 0) (stFill mac_Parse_L0_p h) (mac_Parse_L0_F h) := by
  have e : stFill mac_Parse_L0_p h = mac_Parse_L0_e (gI h 0) (gF h 1) (gN h 2) (gF h 3) := by kernel_rfl
  rw [e]; exact bodyAt_of (C := mac_Parse_L0_C ) ⟨ttOk, eqOk, runS_ok ttOk eqOk mixed (names_ok namesOk) (S := mac_Parse_L0_S ) (sums_cons yes7_ok (sums_cons idx_ok (sums_cons join_ok (sums_cons split_ok (sums_nil))))) (B := mac_Parse_L0_B ) (hooks_nil) opts 40⟩ mixed (hooked_in (by kernel_rfl) blk_nil 0) fun k => mac_Parse_L0_eq _ _ _ _ k
/- weirgate/mac.Of: loop 0 -/
def mac_Of_L0_S  : List (Nat × Sm) := [(7, yes), (24, idxSm), (25, joinSm), (26, splitSm)]
def mac_Of_L0_B  : Hooks := []
noncomputable def mac_Of_L0_C  : Ctx := { tt := tt, eqs := has eql, call := runS tt (has eql) Tryd.prog.funcs 1152921504606846976 (mac_Of_L0_S ) (mac_Of_L0_B ) opts 40, fuel := 1152921504606846976, blk := fun i => aget [] i, bor := opts.bor }
def mac_Of_L0_lo : Vx → List Nat := fun | .normal => [4] | .exit j => (fun _ => []) j | .ret => [2, 3]
def mac_Of_L0_h0 (a_1 : Int) (a_2 : Bool) (a_3 : Nat) (a_4 : Nat → Nat → PV) (a_5 : Int) (a_6 : Int) : St := { n := 23, m := 0, t := [(4, .v (.c (.pv (.val (.int .u64 a_1))))), (10, .v (.c (.pv (.sl a_2 (.int .u8 .nil) 1 a_3 (a_4))))), (11, .v (.c (.pv (.val (.int .i64 a_5))))), (12, .v (.c (.pv (.val (.int .i64 a_6)))))], h := [], nx := 0 }
def mac_Of_L0_x0 (r0 : Int) : St := { n := 23, m := 0, t := [(4, .v (.c (.pv (.val (.int .u64 r0)))))], h := [], nx := 0 }
def mac_Of_L0_s0 {α : Type}  (rec0 : Int → Bool → Nat → (Nat → Nat → PV) → Int → Int → Option α) (k0 : Int → Option α) (a_1 : Int) (a_2 : Bool) (a_3 : Nat) (a_4 : Nat → Nat → PV) (a_5 : Int) (a_6 : Int) : Option α := bif decide (a_6 < a_5) then
  bif inb a_6 a_3 then
   rec0 (bits .or .u64 (shlI .u64 a_1 8) (IntKind.u64.wrap (numOf (a_4 a_6.toNat 0)))) a_2 a_3 a_4 a_5 (IntKind.i64.wrap (a_6 + 1))
  else none /- test -/
 else k0 a_1
def mac_Of_L0_l0 {α : Type} (k0 : Int → Option α) : Nat → Int → Bool → Nat → (Nat → Nat → PV) → Int → Int → Option α
  | 0 => fun _ _ _ _ _ _ => none
  | n + 1 => mac_Of_L0_s0  (mac_Of_L0_l0 k0 n) k0
theorem mac_Of_L0_s0_eq  (k : Kont) (n : Nat) (a_1 : Int) (a_2 : Bool) (a_3 : Nat) (a_4 : Nat → Nat → PV) (a_5 : Int) (a_6 : Int) : loopN (fun st k => exec (mac_Of_L0_C ) (loopBody (codeAt Tryd.f9 0)) st k) [4, 10, 11, 12] (loopK 0 (kn mac_Of_L0_lo k)) (n + 1) (mac_Of_L0_h0 a_1 a_2 a_3 a_4 a_5 a_6) = mac_Of_L0_s0  (fun a_1 a_2 a_3 a_4 a_5 a_6 => loopN (fun st k => exec (mac_Of_L0_C ) (loopBody (codeAt Tryd.f9 0)) st k) [4, 10, 11, 12] (loopK 0 (kn mac_Of_L0_lo k)) n (mac_Of_L0_h0 a_1 a_2 a_3 a_4 a_5 a_6)) (fun r0 => k .normal (mac_Of_L0_x0 r0)) a_1 a_2 a_3 a_4 a_5 a_6 := by kernel_rfl
theorem mac_Of_L0_l0_eq (k : Kont) : ∀ (n : Nat) (a_1 : Int) (a_2 : Bool) (a_3 : Nat) (a_4 : Nat → Nat → PV) (a_5 : Int) (a_6 : Int), loopN (fun st k => exec (mac_Of_L0_C ) (loopBody (codeAt Tryd.f9 0)) st k) [4, 10, 11, 12] (loopK 0 (kn mac_Of_L0_lo k)) n (mac_Of_L0_h0 a_1 a_2 a_3 a_4 a_5 a_6) = mac_Of_L0_l0 (fun r0 => k .normal (mac_Of_L0_x0 r0)) n a_1 a_2 a_3 a_4 a_5 a_6
  | 0, _, _, _, _, _, _ => rfl
  | n + 1, a_1, a_2, a_3, a_4, a_5, a_6 => by
    have r0 : (fun a_1 a_2 a_3 a_4 a_5 a_6 => loopN (fun st k => exec (mac_Of_L0_C ) (loopBody (codeAt Tryd.f9 0)) st k) [4, 10, 11, 12] (loopK 0 (kn mac_Of_L0_lo k)) n (mac_Of_L0_h0 a_1 a_2 a_3 a_4 a_5 a_6)) = mac_Of_L0_l0 (fun r0 => k .normal (mac_Of_L0_x0 r0)) n := funext fun a_1 => funext fun a_2 => funext fun a_3 => funext fun a_4 => funext fun a_5 => funext fun a_6 => mac_Of_L0_l0_eq k n a_1 a_2 a_3 a_4 a_5 a_6
    exact (mac_Of_L0_s0_eq  k n a_1 a_2 a_3 a_4 a_5 a_6).trans (by rw [r0]; rfl)
def mac_Of_L0 {α : Type} (a_1 : Bool) (a_2 : Nat) (a_3 : Nat → Nat → PV) (a_4 : Int) (k0 : Int → Option α) : Option α := mac_Of_L0_l0 k0 1152921504606846976 0 a_1 a_2 a_3 a_4 0
def mac_Of_L0_e (a_1 : Bool) (a_2 : Nat) (a_3 : Nat → Nat → PV) (a_4 : Int) : St := { n := 23, m := 0, t := [(4, .v (.c (.pv (.val (.int .u64 0))))), (10, .v (.c (.pv (.sl a_1 (.int .u8 .nil) 1 a_2 (a_3))))), (11, .v (.c (.pv (.val (.int .i64 a_4))))), (12, .v (.c (.pv (.val (.int .i64 0)))))], h := [], nx := 0 }
theorem mac_Of_L0_eq (a_1 : Bool) (a_2 : Nat) (a_3 : Nat → Nat → PV) (a_4 : Int) (k : Kont) : exec (mac_Of_L0_C ) (codeAt Tryd.f9 0) (mac_Of_L0_e a_1 a_2 a_3 a_4) (kn mac_Of_L0_lo k) = mac_Of_L0 a_1 a_2 a_3 a_4 (fun r0 => k .normal (mac_Of_L0_x0 r0)) :=
  (by kernel_rfl : _ = loopN (fun st k => exec (mac_Of_L0_C ) (loopBody (codeAt Tryd.f9 0)) st k) [4, 10, 11, 12] (loopK 0 (kn mac_Of_L0_lo k)) 1152921504606846976 (mac_Of_L0_h0 0 a_1 a_2 a_3 a_4 0)).trans (mac_Of_L0_l0_eq k 1152921504606846976 0 a_1 a_2 a_3 a_4 0)
def mac_Of_L0_p : PSt := { n := 23, m := 0, t := [(4, .v (.c (.pv (.int .u64 (.l 0))))), (10, .v (.c (.pv (.sl .h (.int .u8 .nil) 1 .h)))), (11, .v (.c (.pv (.int .i64 .h)))), (12, .v (.c (.pv (.int .i64 (.l 0)))))], h := [], nx := 0 }
def mac_Of_L0_F (h : List Hole) (k : Kont) : Option Out := mac_Of_L0 (gB h 0) (gN h 1) (gF h 2) (gI h 3) (fun r0 => k .normal (mac_Of_L0_x0 r0))
theorem mac_Of_L0_at (h : List Hole) : BodyAt Tryd.prog (codeAt Tryd.f9 0) (stFill mac_Of_L0_p h) (mac_Of_L0_F h) := by
  have e : stFill mac_Of_L0_p h = mac_Of_L0_e (gB h 0) (gN h 1) (gF h 2) (gI h 3) := by kernel_rfl
  rw [e]; exact bodyAt_of (C := mac_Of_L0_C ) ⟨ttOk, eqOk, runS_ok ttOk eqOk mixed (names_ok namesOk) (S := mac_Of_L0_S ) (sums_cons yes7_ok (sums_cons idx_ok (sums_cons join_ok (sums_cons split_ok (sums_nil))))) (B := mac_Of_L0_B ) (hooks_nil) opts 40⟩ mixed (hooked_in (by kernel_rfl) blk_nil 0) fun k => mac_Of_L0_eq _ _ _ _ k
/- weirgate/mac.Of -/
def mac_Of_T {α : Type} (Gmac_Of_L0 : Bool → Nat → (Nat → Nat → PV) → Int → (Int → Option α) → Option α) (a_1 : Bool) (a_2 : Nat) (a_3 : Nat → Nat → PV) (k0 : Option α) (k1 : Int → Option α) : Option α := bif ((a_2 : Int) != 6) then
  k0
 else Gmac_Of_L0 a_1 a_2 a_3 (a_2 : Int)
  (fun r_4 => k1 r_4)
def mac_Of {α : Type} (a_1 : Bool) (a_2 : Nat) (a_3 : Nat → Nat → PV) (k0 : Option α) (k1 : Int → Option α) : Option α := mac_Of_T mac_Of_L0 a_1 a_2 a_3 k0 k1
def mac_Of_S (Gmac_Of_L0 : Bool → Nat → (Nat → Nat → PV) → Int → (Int → Option Out) → Option Out) : List (Nat × Sm) := [(7, yes), (24, idxSm), (25, joinSm), (26, splitSm)]
def mac_Of_B (Gmac_Of_L0 : Bool → Nat → (Nat → Nat → PV) → Int → (Int → Option Out) → Option Out) : Hooks := [(9, [(0, hookG [4, 10, 11, 12] [] (bkOf [(mac_Of_L0_p, fun h k => Gmac_Of_L0 (gB h 0) (gN h 1) (gF h 2) (gI h 3) (fun r0 => k .normal (mac_Of_L0_x0 r0)))]))])]
theorem mac_Of_eq (Gmac_Of_L0 : Bool → Nat → (Nat → Nat → PV) → Int → (Int → Option Out) → Option Out) (a_1 : Bool) (a_2 : Nat) (a_3 : Nat → Nat → PV) (k : FK) : runS tt (has eql) Tryd.prog.funcs 1152921504606846976 (mac_Of_S Gmac_Of_L0) (mac_Of_B Gmac_Of_L0) opts 40 9 [.v (.c (.pv (.sl a_1 (.int .u8 .nil) 1 a_2 (a_3))))] [] k = mac_Of_T Gmac_Of_L0 a_1 a_2 a_3 (k (.tup [.c (.pv (.val (.int .u64 0))), .c (.pv (.val (.int .i64 11)))]) []) (fun r0 => k (.tup [.c (.pv (.val (.int .u64 r0))), .c (.pv (.val (.int .i64 0)))]) []) := by kernel_rfl
def mac_Of_p : PAr := ⟨[.v (.c (.pv (.sl .h (.int .u8 .nil) 1 .h)))], []⟩
def mac_Of_F (h : List Hole) (k : FK) : Option Out := mac_Of (gB h 0) (gN h 1) (gF h 2) (k (.tup [.c (.pv (.val (.int .u64 0))), .c (.pv (.val (.int .i64 11)))]) []) (fun r0 => k (.tup [.c (.pv (.val (.int .u64 r0))), .c (.pv (.val (.int .i64 0)))]) [])
theorem mac_Of_at (h : List Hole) : CallAt Tryd.prog 9 (arFill mac_Of_p h).1 (arFill mac_Of_p h).2 (mac_Of_F h) := by
  have e : arFill mac_Of_p h = ([.v (.c (.pv (.sl (gB h 0) (.int .u8 .nil) 1 (gN h 1) ((gF h 2)))))], []) := by kernel_rfl
  rw [e]; exact callAt_of (runS_ok ttOk eqOk mixed (names_ok namesOk) (S := mac_Of_S mac_Of_L0) (sums_cons yes7_ok (sums_cons idx_ok (sums_cons join_ok (sums_cons split_ok (sums_nil))))) (B := mac_Of_B mac_Of_L0) (hooks_add (fn := Tryd.f9) (by kernel_rfl) (by kernel_rfl) (blk_cons (bkOf_ok (blts_cons mac_Of_L0_at blts_nil)) blk_nil) (hooks_nil)) opts 40) fun k => mac_Of_eq mac_Of_L0 _ _ _ k
/- weirgate/mac.Parse -/
def mac_Parse_T {α : Type} (Gmac_Parse_L0 : Int → (Nat → Nat → PV) → Nat → (Nat → Nat → PV) → (Option α) → (Bool → Nat → (Nat → Nat → PV) → Option α) → Option α) (Gmac_Of : Bool → Nat → (Nat → Nat → PV) → (Option α) → (Int → Option α) → Option α)  (k0 : Option α) (k1 : Int → Option α) : Option α := bif splitOk (⟨#[]⟩ : ByteArray) (⟨#[58]⟩ : ByteArray) then
  Gmac_Parse_L0 ((splitN (⟨#[]⟩ : ByteArray) (⟨#[58]⟩ : ByteArray) : Nat) : Int) (fun _ _ => .val undef) (splitN (⟨#[]⟩ : ByteArray) (⟨#[58]⟩ : ByteArray)) (splitRow (⟨#[]⟩ : ByteArray) (⟨#[58]⟩ : ByteArray))
   (k0)
   (fun r_1 r_2 r_3 => Gmac_Of r_1 r_2 r_3
    (k0)
    (fun r_4 => k1 r_4))
 else none /- test -/
def mac_Parse {α : Type}  (k0 : Option α) (k1 : Int → Option α) : Option α := mac_Parse_T mac_Parse_L0 mac_Of  k0 k1
def mac_Parse_S (Gmac_Parse_L0 : Int → (Nat → Nat → PV) → Nat → (Nat → Nat → PV) → (Option Out) → (Bool → Nat → (Nat → Nat → PV) → Option Out) → Option Out) (Gmac_Of : Bool → Nat → (Nat → Nat → PV) → (Option Out) → (Int → Option Out) → Option Out) : List (Nat × Sm) := [(7, yes), (24, idxSm), (25, joinSm), (26, splitSm), (9, smOf [(mac_Of_p, fun h k => Gmac_Of (gB h 0) (gN h 1) (gF h 2) (k (.tup [.c (.pv (.val (.int .u64 0))), .c (.pv (.val (.int .i64 11)))]) []) (fun r0 => k (.tup [.c (.pv (.val (.int .u64 r0))), .c (.pv (.val (.int .i64 0)))]) []))])]
def mac_Parse_B (Gmac_Parse_L0 : Int → (Nat → Nat → PV) → Nat → (Nat → Nat → PV) → (Option Out) → (Bool → Nat → (Nat → Nat → PV) → Option Out) → Option Out) (Gmac_Of : Bool → Nat → (Nat → Nat → PV) → (Option Out) → (Int → Option Out) → Option Out) : Hooks := [(11, [(0, hookG [4, 10, 11, 12] [(4, (.int .u8 .nil), 1)] (bkOf [(mac_Parse_L0_p, fun h k => Gmac_Parse_L0 (gI h 0) (gF h 1) (gN h 2) (gF h 3) (k .ret (mac_Parse_L0_x0)) (fun r0 r1 r2 => k .normal (mac_Parse_L0_x1 r0 r1 r2)))]))])]
theorem mac_Parse_eq (Gmac_Parse_L0 : Int → (Nat → Nat → PV) → Nat → (Nat → Nat → PV) → (Option Out) → (Bool → Nat → (Nat → Nat → PV) → Option Out) → Option Out) (Gmac_Of : Bool → Nat → (Nat → Nat → PV) → (Option Out) → (Int → Option Out) → Option Out)  (k : FK) : runS tt (has eql) Tryd.prog.funcs 1152921504606846976 (mac_Parse_S Gmac_Parse_L0 Gmac_Of) (mac_Parse_B Gmac_Parse_L0 Gmac_Of) opts 40 11 [.v (.c (.pv (.val (.string (⟨#[]⟩ : ByteArray)))))] [] k = mac_Parse_T Gmac_Parse_L0 Gmac_Of  (k (.tup [.c (.pv (.val (.int .u64 0))), .c (.pv (.val (.int .i64 11)))]) []) (fun r0 => k (.tup [.c (.pv (.val (.int .u64 r0))), .c (.pv (.val (.int .i64 0)))]) []) := by kernel_rfl
def mac_Parse_p : PAr := ⟨[.v (.c (.pv (.strl [])))], []⟩
def mac_Parse_F (h : List Hole) (k : FK) : Option Out := mac_Parse  (k (.tup [.c (.pv (.val (.int .u64 0))), .c (.pv (.val (.int .i64 11)))]) []) (fun r0 => k (.tup [.c (.pv (.val (.int .u64 r0))), .c (.pv (.val (.int .i64 0)))]) [])
theorem mac_Parse_at (h : List Hole) : CallAt Tryd.prog 11 (arFill mac_Parse_p h).1 (arFill mac_Parse_p h).2 (mac_Parse_F h) := by
  have e : arFill mac_Parse_p h = ([.v (.c (.pv (.val (.string (⟨#[]⟩ : ByteArray)))))], []) := by kernel_rfl
  rw [e]; exact callAt_of (runS_ok ttOk eqOk mixed (names_ok namesOk) (S := mac_Parse_S mac_Parse_L0 mac_Of) (sums_cons yes7_ok (sums_cons idx_ok (sums_cons join_ok (sums_cons split_ok (sums_cons (smOf_ok (alts_cons mac_Of_at alts_nil)) (sums_nil)))))) (B := mac_Parse_B mac_Parse_L0 mac_Of) (hooks_add (fn := Tryd.f11) (by kernel_rfl) (by kernel_rfl) (blk_cons (bkOf_ok (blts_cons mac_Parse_L0_at blts_nil)) blk_nil) (hooks_nil)) opts 40) fun k => mac_Parse_eq mac_Parse_L0 mac_Of  k
/- weirgate/mac.Parse -/
def mac_Parse_v1_T {α : Type} (Gmac_Parse_L0 : Int → (Nat → Nat → PV) → Nat → (Nat → Nat → PV) → (Option α) → (Bool → Nat → (Nat → Nat → PV) → Option α) → Option α) (Gmac_Of : Bool → Nat → (Nat → Nat → PV) → (Option α) → (Int → Option α) → Option α) (a_1 : ByteArray) (k0 : Option α) (k1 : Int → Option α) : Option α := bif splitOk a_1 (⟨#[58]⟩ : ByteArray) then
  Gmac_Parse_L0 ((splitN a_1 (⟨#[58]⟩ : ByteArray) : Nat) : Int) (fun _ _ => .val undef) (splitN a_1 (⟨#[58]⟩ : ByteArray)) (splitRow a_1 (⟨#[58]⟩ : ByteArray))
   (k0)
   (fun r_2 r_3 r_4 => Gmac_Of r_2 r_3 r_4
    (k0)
    (fun r_5 => k1 r_5))
 else none /- test -/
def mac_Parse_v1 {α : Type} (a_1 : ByteArray) (k0 : Option α) (k1 : Int → Option α) : Option α := mac_Parse_v1_T mac_Parse_L0 mac_Of a_1 k0 k1
def mac_Parse_v1_S (Gmac_Parse_L0 : Int → (Nat → Nat → PV) → Nat → (Nat → Nat → PV) → (Option Out) → (Bool → Nat → (Nat → Nat → PV) → Option Out) → Option Out) (Gmac_Of : Bool → Nat → (Nat → Nat → PV) → (Option Out) → (Int → Option Out) → Option Out) : List (Nat × Sm) := [(7, yes), (24, idxSm), (25, joinSm), (26, splitSm), (9, smOf [(mac_Of_p, fun h k => Gmac_Of (gB h 0) (gN h 1) (gF h 2) (k (.tup [.c (.pv (.val (.int .u64 0))), .c (.pv (.val (.int .i64 11)))]) []) (fun r0 => k (.tup [.c (.pv (.val (.int .u64 r0))), .c (.pv (.val (.int .i64 0)))]) []))])]
def mac_Parse_v1_B (Gmac_Parse_L0 : Int → (Nat → Nat → PV) → Nat → (Nat → Nat → PV) → (Option Out) → (Bool → Nat → (Nat → Nat → PV) → Option Out) → Option Out) (Gmac_Of : Bool → Nat → (Nat → Nat → PV) → (Option Out) → (Int → Option Out) → Option Out) : Hooks := [(11, [(0, hookG [4, 10, 11, 12] [(4, (.int .u8 .nil), 1)] (bkOf [(mac_Parse_L0_p, fun h k => Gmac_Parse_L0 (gI h 0) (gF h 1) (gN h 2) (gF h 3) (k .ret (mac_Parse_L0_x0)) (fun r0 r1 r2 => k .normal (mac_Parse_L0_x1 r0 r1 r2)))]))])]
theorem mac_Parse_v1_eq (Gmac_Parse_L0 : Int → (Nat → Nat → PV) → Nat → (Nat → Nat → PV) → (Option Out) → (Bool → Nat → (Nat → Nat → PV) → Option Out) → Option Out) (Gmac_Of : Bool → Nat → (Nat → Nat → PV) → (Option Out) → (Int → Option Out) → Option Out) (a_1 : ByteArray) (k : FK) : runS tt (has eql) Tryd.prog.funcs 1152921504606846976 (mac_Parse_v1_S Gmac_Parse_L0 Gmac_Of) (mac_Parse_v1_B Gmac_Parse_L0 Gmac_Of) opts 40 11 [.v (.c (.pv (.val (.string a_1))))] [] k = mac_Parse_v1_T Gmac_Parse_L0 Gmac_Of a_1 (k (.tup [.c (.pv (.val (.int .u64 0))), .c (.pv (.val (.int .i64 11)))]) []) (fun r0 => k (.tup [.c (.pv (.val (.int .u64 r0))), .c (.pv (.val (.int .i64 0)))]) []) := by kernel_rfl
def mac_Parse_v1_p : PAr := ⟨[.v (.c (.pv (.str)))], []⟩
def mac_Parse_v1_F (h : List Hole) (k : FK) : Option Out := mac_Parse_v1 (gS h 0) (k (.tup [.c (.pv (.val (.int .u64 0))), .c (.pv (.val (.int .i64 11)))]) []) (fun r0 => k (.tup [.c (.pv (.val (.int .u64 r0))), .c (.pv (.val (.int .i64 0)))]) [])
theorem mac_Parse_v1_at (h : List Hole) : CallAt Tryd.prog 11 (arFill mac_Parse_v1_p h).1 (arFill mac_Parse_v1_p h).2 (mac_Parse_v1_F h) := by
  have e : arFill mac_Parse_v1_p h = ([.v (.c (.pv (.val (.string (gS h 0)))))], []) := by kernel_rfl
  rw [e]; exact callAt_of (runS_ok ttOk eqOk mixed (names_ok namesOk) (S := mac_Parse_v1_S mac_Parse_L0 mac_Of) (sums_cons yes7_ok (sums_cons idx_ok (sums_cons join_ok (sums_cons split_ok (sums_cons (smOf_ok (alts_cons mac_Of_at alts_nil)) (sums_nil)))))) (B := mac_Parse_v1_B mac_Parse_L0 mac_Of) (hooks_add (fn := Tryd.f11) (by kernel_rfl) (by kernel_rfl) (blk_cons (bkOf_ok (blts_cons mac_Parse_L0_at blts_nil)) blk_nil) (hooks_nil)) opts 40) fun k => mac_Parse_v1_eq mac_Parse_L0 mac_Of _ k
def e31 (x0 : ByteArray) (x1 : Int) (x2 : Int) : Bool := !(((⟨#[]⟩ : ByteArray).toList == x0.toList) == ((x1.tmod 281474976710656) == (x2.tmod 281474976710656)))
def e32 (x0 : ByteArray) (x1 : Int) (x2 : Int) : Bool := !((x0.toList == (⟨#[]⟩ : ByteArray).toList) == ((x1.tmod 281474976710656) == (x2.tmod 281474976710656)))
def e33 (x0 : ByteArray) (x1 : ByteArray) (x2 : Int) (x3 : Int) : Bool := !((x0.toList == x1.toList) == ((x2.tmod 281474976710656) == (x3.tmod 281474976710656)))
/- weirgate/weirgatelaw09.MacBack -/
def law09_MacBack_T {α : Type} (Gmac_Text : Int → (Option α) → (ByteArray → Option α) → Option α) (Gmac_Parse_v1 : ByteArray → (Option α) → (Int → Option α) → Option α) (a_1 : Int) (a_2 : Int) (a_3 : ByteArray) (k0 : Option α) (k1 : Option α) : Option α := bif decide ((a_3.size : Int) > 100) then
  k0
 else Gmac_Text (a_1.tmod 281474976710656)
  (Gmac_Parse_v1 (⟨#[]⟩ : ByteArray)
   (k1)
   (fun r_4 => bif ((e9 a_1) != (a_1.tmod 281474976710656)) then
    k1
   else bif (r_4 != (a_1.tmod 281474976710656)) then
    k1
   else Gmac_Text (a_1.tmod 281474976710656)
    (Gmac_Text (a_2.tmod 281474976710656)
     (bif !(true == ((a_1.tmod 281474976710656) == (a_2.tmod 281474976710656))) then
      k1
     else Gmac_Parse_v1 a_3
      (k0)
      (fun r_5 => Gmac_Text r_5
       (bif !((⟨#[]⟩ : ByteArray).toList == a_3.toList) then
        k1
       else k0)
       (fun r_6 => bif !(r_6.toList == a_3.toList) then
        k1
       else k0)))
     (fun r_5 => bif e31 r_5 a_1 a_2 then
      k1
     else Gmac_Parse_v1 a_3
      (k0)
      (fun r_6 => Gmac_Text r_6
       (bif !((⟨#[]⟩ : ByteArray).toList == a_3.toList) then
        k1
       else k0)
       (fun r_7 => bif !(r_7.toList == a_3.toList) then
        k1
       else k0))))
    (fun r_5 => Gmac_Text (a_2.tmod 281474976710656)
     (bif e32 r_5 a_1 a_2 then
      k1
     else Gmac_Parse_v1 a_3
      (k0)
      (fun r_6 => Gmac_Text r_6
       (bif !((⟨#[]⟩ : ByteArray).toList == a_3.toList) then
        k1
       else k0)
       (fun r_7 => bif !(r_7.toList == a_3.toList) then
        k1
       else k0)))
     (fun r_6 => bif e33 r_5 r_6 a_1 a_2 then
      k1
     else Gmac_Parse_v1 a_3
      (k0)
      (fun r_7 => Gmac_Text r_7
       (bif !((⟨#[]⟩ : ByteArray).toList == a_3.toList) then
        k1
       else k0)
       (fun r_8 => bif !(r_8.toList == a_3.toList) then
        k1
       else k0))))))
  (fun r_4 => Gmac_Parse_v1 r_4
   (k1)
   (fun r_5 => bif ((e9 a_1) != (a_1.tmod 281474976710656)) then
    k1
   else bif (r_5 != (a_1.tmod 281474976710656)) then
    k1
   else Gmac_Text (a_1.tmod 281474976710656)
    (Gmac_Text (a_2.tmod 281474976710656)
     (bif !(true == ((a_1.tmod 281474976710656) == (a_2.tmod 281474976710656))) then
      k1
     else Gmac_Parse_v1 a_3
      (k0)
      (fun r_6 => Gmac_Text r_6
       (bif !((⟨#[]⟩ : ByteArray).toList == a_3.toList) then
        k1
       else k0)
       (fun r_7 => bif !(r_7.toList == a_3.toList) then
        k1
       else k0)))
     (fun r_6 => bif e31 r_6 a_1 a_2 then
      k1
     else Gmac_Parse_v1 a_3
      (k0)
      (fun r_7 => Gmac_Text r_7
       (bif !((⟨#[]⟩ : ByteArray).toList == a_3.toList) then
        k1
       else k0)
       (fun r_8 => bif !(r_8.toList == a_3.toList) then
        k1
       else k0))))
    (fun r_6 => Gmac_Text (a_2.tmod 281474976710656)
     (bif e32 r_6 a_1 a_2 then
      k1
     else Gmac_Parse_v1 a_3
      (k0)
      (fun r_7 => Gmac_Text r_7
       (bif !((⟨#[]⟩ : ByteArray).toList == a_3.toList) then
        k1
       else k0)
       (fun r_8 => bif !(r_8.toList == a_3.toList) then
        k1
       else k0)))
     (fun r_7 => bif e33 r_6 r_7 a_1 a_2 then
      k1
     else Gmac_Parse_v1 a_3
      (k0)
      (fun r_8 => Gmac_Text r_8
       (bif !((⟨#[]⟩ : ByteArray).toList == a_3.toList) then
        k1
       else k0)
       (fun r_9 => bif !(r_9.toList == a_3.toList) then
        k1
       else k0))))))
def law09_MacBack {α : Type} (a_1 : Int) (a_2 : Int) (a_3 : ByteArray) (k0 : Option α) (k1 : Option α) : Option α := law09_MacBack_T mac_Text mac_Parse_v1 a_1 a_2 a_3 k0 k1
def law09_MacBack_S (Gmac_Text : Int → (Option Out) → (ByteArray → Option Out) → Option Out) (Gmac_Parse_v1 : ByteArray → (Option Out) → (Int → Option Out) → Option Out) : List (Nat × Sm) := [(7, yes), (24, idxSm), (25, joinSm), (26, splitSm), (21, smOf [(mac_Text_p, fun h k => Gmac_Text (gI h 0) (k (.v (.c (.pv (.val (.string (⟨#[]⟩ : ByteArray)))))) []) (fun r0 => k (.v (.c (.pv (.val (.string r0))))) []))]), (11, smOf [(mac_Parse_v1_p, fun h k => Gmac_Parse_v1 (gS h 0) (k (.tup [.c (.pv (.val (.int .u64 0))), .c (.pv (.val (.int .i64 11)))]) []) (fun r0 => k (.tup [.c (.pv (.val (.int .u64 r0))), .c (.pv (.val (.int .i64 0)))]) [])), (mac_Parse_p, mac_Parse_F)])]
def law09_MacBack_B (Gmac_Text : Int → (Option Out) → (ByteArray → Option Out) → Option Out) (Gmac_Parse_v1 : ByteArray → (Option Out) → (Int → Option Out) → Option Out) : Hooks := []
theorem law09_MacBack_eq (Gmac_Text : Int → (Option Out) → (ByteArray → Option Out) → Option Out) (Gmac_Parse_v1 : ByteArray → (Option Out) → (Int → Option Out) → Option Out) (a_1 : Int) (a_2 : Int) (a_3 : ByteArray) (k : FK) : runS tt (has eql) Tryd.prog.funcs 1152921504606846976 (law09_MacBack_S Gmac_Text Gmac_Parse_v1) (law09_MacBack_B Gmac_Text Gmac_Parse_v1) opts 40 4 [.v (.c (.pv (.val (.int .u64 a_1)))), .v (.c (.pv (.val (.int .u64 a_2)))), .v (.c (.pv (.val (.string a_3))))] [] k = law09_MacBack_T Gmac_Text Gmac_Parse_v1 a_1 a_2 a_3 (k (.v (.c (.pv (.val (.bool true))))) []) (k (.v (.c (.pv (.val (.bool false))))) []) := by kernel_rfl
def law09_MacBack_p : PAr := ⟨[.v (.c (.pv (.int .u64 .h))), .v (.c (.pv (.int .u64 .h))), .v (.c (.pv (.str)))], []⟩
def law09_MacBack_F (h : List Hole) (k : FK) : Option Out := law09_MacBack (gI h 0) (gI h 1) (gS h 2) (k (.v (.c (.pv (.val (.bool true))))) []) (k (.v (.c (.pv (.val (.bool false))))) [])
theorem law09_MacBack_at (h : List Hole) : CallAt Tryd.prog 4 (arFill law09_MacBack_p h).1 (arFill law09_MacBack_p h).2 (law09_MacBack_F h) := by
  have e : arFill law09_MacBack_p h = ([.v (.c (.pv (.val (.int .u64 (gI h 0))))), .v (.c (.pv (.val (.int .u64 (gI h 1))))), .v (.c (.pv (.val (.string (gS h 2)))))], []) := by kernel_rfl
  rw [e]; exact callAt_of (runS_ok ttOk eqOk mixed (names_ok namesOk) (S := law09_MacBack_S mac_Text mac_Parse_v1) (sums_cons yes7_ok (sums_cons idx_ok (sums_cons join_ok (sums_cons split_ok (sums_cons (smOf_ok (alts_cons mac_Text_at alts_nil)) (sums_cons (smOf_ok (alts_cons mac_Parse_v1_at (alts_cons mac_Parse_at alts_nil))) (sums_nil))))))) (B := law09_MacBack_B mac_Text mac_Parse_v1) (hooks_nil) opts 40) fun k => law09_MacBack_eq mac_Text mac_Parse_v1 _ _ _ k
theorem call_ok : CallSem Tryd.prog (runS tt (has eql) Tryd.prog.funcs 1152921504606846976 (law09_MacBack_S mac_Text mac_Parse_v1) (law09_MacBack_B mac_Text mac_Parse_v1) opts 40) := runS_ok ttOk eqOk mixed (names_ok namesOk) (S := law09_MacBack_S mac_Text mac_Parse_v1) (sums_cons yes7_ok (sums_cons idx_ok (sums_cons join_ok (sums_cons split_ok (sums_cons (smOf_ok (alts_cons mac_Text_at alts_nil)) (sums_cons (smOf_ok (alts_cons mac_Parse_v1_at (alts_cons mac_Parse_at alts_nil))) (sums_nil))))))) (B := law09_MacBack_B mac_Text mac_Parse_v1) (hooks_nil) opts 40
theorem law_eq (a_1 : Int) (a_2 : Int) (a_3 : ByteArray) (k : FK) : runS tt (has eql) Tryd.prog.funcs 1152921504606846976 (law09_MacBack_S mac_Text mac_Parse_v1) (law09_MacBack_B mac_Text mac_Parse_v1) opts 40 4 [.v (.c (.pv (.val (.int .u64 a_1)))), .v (.c (.pv (.val (.int .u64 a_2)))), .v (.c (.pv (.val (.string a_3))))] [] k = law09_MacBack a_1 a_2 a_3 (k (.v (.c (.pv (.val (.bool true))))) []) (k (.v (.c (.pv (.val (.bool false))))) []) := law09_MacBack_eq mac_Text mac_Parse_v1 a_1 a_2 a_3 k
end Go.Proofs.YtampnnhdgnhjaaaDoor.MacBack

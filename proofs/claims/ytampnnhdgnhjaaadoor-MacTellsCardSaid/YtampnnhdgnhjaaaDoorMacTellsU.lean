/- MacTells: the code of the law and of all that it calls, told by functions over numbers and rows. WRITTEN BY gen.py. -/
import Derived.Test.YtampnnhdgnhjaaaDoorHand
set_option linter.unusedVariables false
namespace Go.Proofs.YtampnnhdgnhjaaaDoor.MacTells
open Go.Ve
set_option maxRecDepth 100000
theorem wakes_eq (k : AV → List AObj → Option Out) : runS tt (has eql) Tryd.prog.funcs 100000 [(24, idxSm), (25, joinSm), (26, splitSm)] [] opts 40 7 [] [] k = k (.b true) [] := by kernel_rfl
theorem yes7_ok : SumOk Tryd.prog 7 yes := SumOk.yes (runS_ok ttOk eqOk mixed (names_ok namesOk) (S := [(24, idxSm), (25, joinSm), (26, splitSm)]) (sums_cons idx_ok (sums_cons join_ok (sums_cons split_ok (sums_nil)))) hooks_nil opts 40) wakes_eq
/- weirgate/mac.Of: loop 0 -/
def mac_Of_L0_S  : List (Nat × Sm) := [(7, yes), (24, idxSm), (25, joinSm), (26, splitSm)]
def mac_Of_L0_B  : Hooks := []
noncomputable def mac_Of_L0_C  : Ctx := { tt := tt, eqs := has eql, call := runS tt (has eql) Tryd.prog.funcs 1152921504606846976 (mac_Of_L0_S ) (mac_Of_L0_B ) opts 40, fuel := 1152921504606846976, blk := fun i => aget [] i, bor := opts.bor }
def mac_Of_L0_lo : Vx → List Nat := fun | .normal => [4] | .exit j => (fun _ => []) j | .ret => [2, 3]
def mac_Of_L0_h0 (a_1 : Int) (a_2 : Bool) (a_3 : Nat) (a_4 : Nat → Nat → PV) (a_5 : Int) (a_6 : Int) : St := { n := 23, m := 0, t := [(4, .v (.c (.pv (.val (.int .u64 a_1))))), (10, .v (.c (.pv (.sl a_2 (.int .u8 .nil) 1 a_3 (a_4))))), (11, .v (.c (.pv (.val (.int .i64 a_5))))), (12, .v (.c (.pv (.val (.int .i64 a_6)))))], h := [], nx := 0 }
def mac_Of_L0_x0 (r0 : Int) : St := { n := 23, m := 0, t := [(4, .v (.c (.pv (.val (.int .u64 r0)))))], h := [], nx := 0 }
def mac_Of_L0_s0 {α : Type}  (rec0 : Int → Bool → Nat → (Nat → Nat → PV) → Int → Int → Option α) (k0 : Int → Option α) (a_1 : Int) (a_2 : Bool) (a_3 : Nat) (a_4 : Nat → Nat → PV) (a_5 : Int) (a_6 : Int) : Option α := bif decide (a_6 < a_5) then
  bif inb a_6 a_3 then
   rec0 (bits .or .u64 (shlI .u64 a_1 8) (IntKind.u64.wrap (numOf (a_4 a_6.toNat 0)))) a_2 a_3 a_4 a_5 (IntKind.i64.wrap (a_6 + 1))
  else none /- test -/
 else k0 a_1
def mac_Of_L0_l0 {α : Type} (k0 : Int → Option α) : Nat → Int → Bool → Nat → (Nat → Nat → PV) → Int → Int → Option α
  | 0 => fun _ _ _ _ _ _ => none
  | n + 1 => mac_Of_L0_s0  (mac_Of_L0_l0 k0 n) k0
theorem mac_Of_L0_s0_eq  (k : Kont) (n : Nat) (a_1 : Int) (a_2 : Bool) (a_3 : Nat) (a_4 : Nat → Nat → PV) (a_5 : Int) (a_6 : Int) : loopN (fun st k => exec (mac_Of_L0_C ) (loopBody (codeAt Tryd.f9 0)) st k) [4, 10, 11, 12] (loopK 0 (kn mac_Of_L0_lo k)) (n + 1) (mac_Of_L0_h0 a_1 a_2 a_3 a_4 a_5 a_6) = mac_Of_L0_s0  (fun a_1 a_2 a_3 a_4 a_5 a_6 => loopN (fun st k => exec (mac_Of_L0_C ) (loopBody (codeAt Tryd.f9 0)) st k) [4, 10, 11, 12] (loopK 0 (kn mac_Of_L0_lo k)) n (mac_Of_L0_h0 a_1 a_2 a_3 a_4 a_5 a_6)) (fun r0 => k .normal (mac_Of_L0_x0 r0)) a_1 a_2 a_3 a_4 a_5 a_6 := by kernel_rfl
theorem mac_Of_L0_l0_eq (k : Kont) : ∀ (n : Nat) (a_1 : Int) (a_2 : Bool) (a_3 : Nat) (a_4 : Nat → Nat → PV) (a_5 : Int) (a_6 : Int), loopN (fun st k => exec (mac_Of_L0_C ) (loopBody (codeAt Tryd.f9 0)) st k) [4, 10, 11, 12] (loopK 0 (kn mac_Of_L0_lo k)) n (mac_Of_L0_h0 a_1 a_2 a_3 a_4 a_5 a_6) = mac_Of_L0_l0 (fun r0 => k .normal (mac_Of_L0_x0 r0)) n a_1 a_2 a_3 a_4 a_5 a_6
  | 0, _, _, _, _, _, _ => rfl
  | n + 1, a_1, a_2, a_3, a_4, a_5, a_6 => by
    have r0 : (fun a_1 a_2 a_3 a_4 a_5 a_6 => loopN (fun st k => exec (mac_Of_L0_C ) (loopBody (codeAt Tryd.f9 0)) st k) [4, 10, 11, 12] (loopK 0 (kn mac_Of_L0_lo k)) n (mac_Of_L0_h0 a_1 a_2 a_3 a_4 a_5 a_6)) = mac_Of_L0_l0 (fun r0 => k .normal (mac_Of_L0_x0 r0)) n := funext fun a_1 => funext fun a_2 => funext fun a_3 => funext fun a_4 => funext fun a_5 => funext fun a_6 => mac_Of_L0_l0_eq k n a_1 a_2 a_3 a_4 a_5 a_6
    exact (mac_Of_L0_s0_eq  k n a_1 a_2 a_3 a_4 a_5 a_6).trans (by rw [r0]; rfl)
def mac_Of_L0 {α : Type} (a_1 : Bool) (a_2 : Nat) (a_3 : Nat → Nat → PV) (a_4 : Int) (k0 : Int → Option α) : Option α := mac_Of_L0_l0 k0 1152921504606846976 0 a_1 a_2 a_3 a_4 0
def mac_Of_L0_e (a_1 : Bool) (a_2 : Nat) (a_3 : Nat → Nat → PV) (a_4 : Int) : St := { n := 23, m := 0, t := [(4, .v (.c (.pv (.val (.int .u64 0))))), (10, .v (.c (.pv (.sl a_1 (.int .u8 .nil) 1 a_2 (a_3))))), (11, .v (.c (.pv (.val (.int .i64 a_4))))), (12, .v (.c (.pv (.val (.int .i64 0)))))], h := [], nx := 0 }
theorem mac_Of_L0_eq (a_1 : Bool) (a_2 : Nat) (a_3 : Nat → Nat → PV) (a_4 : Int) (k : Kont) : exec (mac_Of_L0_C ) (codeAt Tryd.f9 0) (mac_Of_L0_e a_1 a_2 a_3 a_4) (kn mac_Of_L0_lo k) = mac_Of_L0 a_1 a_2 a_3 a_4 (fun r0 => k .normal (mac_Of_L0_x0 r0)) :=
  (by kernel_rfl : _ = loopN (fun st k => exec (mac_Of_L0_C ) (loopBody (codeAt Tryd.f9 0)) st k) [4, 10, 11, 12] (loopK 0 (kn mac_Of_L0_lo k)) 1152921504606846976 (mac_Of_L0_h0 0 a_1 a_2 a_3 a_4 0)).trans (mac_Of_L0_l0_eq k 1152921504606846976 0 a_1 a_2 a_3 a_4 0)
def mac_Of_L0_p : PSt := { n := 23, m := 0, t := [(4, .v (.c (.pv (.int .u64 (.l 0))))), (10, .v (.c (.pv (.sl .h (.int .u8 .nil) 1 .h)))), (11, .v (.c (.pv (.int .i64 .h)))), (12, .v (.c (.pv (.int .i64 (.l 0)))))], h := [], nx := 0 }
def mac_Of_L0_F (h : List Hole) (k : Kont) : Option Out := mac_Of_L0 (gB h 0) (gN h 1) (gF h 2) (gI h 3) (fun r0 => k .normal (mac_Of_L0_x0 r0))
theorem mac_Of_L0_at (h : List Hole) : BodyAt Tryd.prog (codeAt Tryd.f9 0) (stFill mac_Of_L0_p h) (mac_Of_L0_F h) := by
  have e : stFill mac_Of_L0_p h = mac_Of_L0_e (gB h 0) (gN h 1) (gF h 2) (gI h 3) := by kernel_rfl
  rw [e]; exact bodyAt_of (C := mac_Of_L0_C ) ⟨ttOk, eqOk, runS_ok ttOk eqOk mixed (names_ok namesOk) (S := mac_Of_L0_S ) (sums_cons yes7_ok (sums_cons idx_ok (sums_cons join_ok (sums_cons split_ok (sums_nil))))) (B := mac_Of_L0_B ) (hooks_nil) opts 40⟩ mixed (hooked_in (by kernel_rfl) blk_nil 0) fun k => mac_Of_L0_eq _ _ _ _ k
/- weirgate/mac.Of -/
def mac_Of_T {α : Type} (Gmac_Of_L0 : Bool → Nat → (Nat → Nat → PV) → Int → (Int → Option α) → Option α) (a_1 : Bool) (a_2 : Nat) (a_3 : Nat → Nat → PV) (k0 : Int → Int → Option α) : Option α := bif ((a_2 : Int) != 6) then
  k0 0 11
 else Gmac_Of_L0 a_1 a_2 a_3 (a_2 : Int)
  (fun r_4 => k0 r_4 0)
def mac_Of {α : Type} (a_1 : Bool) (a_2 : Nat) (a_3 : Nat → Nat → PV) (k0 : Int → Int → Option α) : Option α := mac_Of_T mac_Of_L0 a_1 a_2 a_3 k0
def mac_Of_S (Gmac_Of_L0 : Bool → Nat → (Nat → Nat → PV) → Int → (Int → Option Out) → Option Out) : List (Nat × Sm) := [(7, yes), (24, idxSm), (25, joinSm), (26, splitSm)]
def mac_Of_B (Gmac_Of_L0 : Bool → Nat → (Nat → Nat → PV) → Int → (Int → Option Out) → Option Out) : Hooks := [(9, [(0, hookG [4, 10, 11, 12] [] (bkOf [(mac_Of_L0_p, fun h k => Gmac_Of_L0 (gB h 0) (gN h 1) (gF h 2) (gI h 3) (fun r0 => k .normal (mac_Of_L0_x0 r0)))]))])]
theorem mac_Of_eq (Gmac_Of_L0 : Bool → Nat → (Nat → Nat → PV) → Int → (Int → Option Out) → Option Out) (a_1 : Bool) (a_2 : Nat) (a_3 : Nat → Nat → PV) (k : FK) : runS tt (has eql) Tryd.prog.funcs 1152921504606846976 (mac_Of_S Gmac_Of_L0) (mac_Of_B Gmac_Of_L0) opts 40 9 [.v (.c (.pv (.sl a_1 (.int .u8 .nil) 1 a_2 (a_3))))] [] k = mac_Of_T Gmac_Of_L0 a_1 a_2 a_3 (fun r0 r1 => k (.tup [.c (.pv (.val (.int .u64 r0))), .c (.pv (.val (.int .i64 r1)))]) []) := by kernel_rfl
def mac_Of_p : PAr := ⟨[.v (.c (.pv (.sl .h (.int .u8 .nil) 1 .h)))], []⟩
def mac_Of_F (h : List Hole) (k : FK) : Option Out := mac_Of (gB h 0) (gN h 1) (gF h 2) (fun r0 r1 => k (.tup [.c (.pv (.val (.int .u64 r0))), .c (.pv (.val (.int .i64 r1)))]) [])
theorem mac_Of_at (h : List Hole) : CallAt Tryd.prog 9 (arFill mac_Of_p h).1 (arFill mac_Of_p h).2 (mac_Of_F h) := by
  have e : arFill mac_Of_p h = ([.v (.c (.pv (.sl (gB h 0) (.int .u8 .nil) 1 (gN h 1) ((gF h 2)))))], []) := by kernel_rfl
  rw [e]; exact callAt_of (runS_ok ttOk eqOk mixed (names_ok namesOk) (S := mac_Of_S mac_Of_L0) (sums_cons yes7_ok (sums_cons idx_ok (sums_cons join_ok (sums_cons split_ok (sums_nil))))) (B := mac_Of_B mac_Of_L0) (hooks_add (fn := Tryd.f9) (by kernel_rfl) (by kernel_rfl) (blk_cons (bkOf_ok (blts_cons mac_Of_L0_at blts_nil)) blk_nil) (hooks_nil)) opts 40) fun k => mac_Of_eq mac_Of_L0 _ _ _ k
def e1 (x0 : Nat → Nat → PV) : Int := IntKind.u64.wrap ((shlI .u64 (IntKind.u64.wrap (0 + (IntKind.u64.wrap (numOf (x0 0 0))))) 8) + (IntKind.u64.wrap (numOf (x0 1 0))))
def e2 (x0 : Nat → Nat → PV) : Int := shlI .u64 (IntKind.u64.wrap ((shlI .u64 (e1 x0) 8) + (IntKind.u64.wrap (numOf (x0 2 0))))) 8
def e3 (x0 : Nat → Nat → PV) : Int := IntKind.u64.wrap ((shlI .u64 (IntKind.u64.wrap ((e2 x0) + (IntKind.u64.wrap (numOf (x0 3 0))))) 8) + (IntKind.u64.wrap (numOf (x0 4 0))))
/- weirgate/weirgateref09.Of -/
def ref09_Of_T {α : Type}  (a_1 : Bool) (a_2 : Nat) (a_3 : Nat → Nat → PV) (k0 : Int → Int → Option α) : Option α := bif ((a_2 : Int) != 6) then
  k0 0 11
 else bif inb 0 a_2 then
  bif inb 1 a_2 then
   bif inb 2 a_2 then
    bif inb 3 a_2 then
     bif inb 4 a_2 then
      bif inb 5 a_2 then
       k0 (IntKind.u64.wrap ((shlI .u64 (e3 a_3) 8) + (IntKind.u64.wrap (numOf (a_3 5 0))))) 0
      else none /- test -/
     else none /- test -/
    else none /- test -/
   else none /- test -/
  else none /- test -/
 else none /- test -/
def ref09_Of {α : Type} (a_1 : Bool) (a_2 : Nat) (a_3 : Nat → Nat → PV) (k0 : Int → Int → Option α) : Option α := ref09_Of_T  a_1 a_2 a_3 k0
def ref09_Of_S  : List (Nat × Sm) := [(7, yes), (24, idxSm), (25, joinSm), (26, splitSm)]
def ref09_Of_B  : Hooks := []
theorem ref09_Of_eq  (a_1 : Bool) (a_2 : Nat) (a_3 : Nat → Nat → PV) (k : FK) : runS tt (has eql) Tryd.prog.funcs 1152921504606846976 (ref09_Of_S ) (ref09_Of_B ) opts 40 10 [.v (.c (.pv (.sl a_1 (.int .u8 .nil) 1 a_2 (a_3))))] [] k = ref09_Of_T  a_1 a_2 a_3 (fun r0 r1 => k (.tup [.c (.pv (.val (.int .u64 r0))), .c (.pv (.val (.int .i64 r1)))]) []) := by kernel_rfl
def ref09_Of_p : PAr := ⟨[.v (.c (.pv (.sl .h (.int .u8 .nil) 1 .h)))], []⟩
def ref09_Of_F (h : List Hole) (k : FK) : Option Out := ref09_Of (gB h 0) (gN h 1) (gF h 2) (fun r0 r1 => k (.tup [.c (.pv (.val (.int .u64 r0))), .c (.pv (.val (.int .i64 r1)))]) [])
theorem ref09_Of_at (h : List Hole) : CallAt Tryd.prog 10 (arFill ref09_Of_p h).1 (arFill ref09_Of_p h).2 (ref09_Of_F h) := by
  have e : arFill ref09_Of_p h = ([.v (.c (.pv (.sl (gB h 0) (.int .u8 .nil) 1 (gN h 1) ((gF h 2)))))], []) := by kernel_rfl
  rw [e]; exact callAt_of (runS_ok ttOk eqOk mixed (names_ok namesOk) (S := ref09_Of_S ) (sums_cons yes7_ok (sums_cons idx_ok (sums_cons join_ok (sums_cons split_ok (sums_nil))))) (B := ref09_Of_B ) (hooks_nil) opts 40) fun k => ref09_Of_eq  _ _ _ k
def e4 (x0 : Nat → Nat → PV) : Int := Lib.indexByte (⟨#[48, 49, 50, 51, 52, 53, 54, 55, 56, 57, 97, 98, 99, 100, 101, 102]⟩ : ByteArray).data.toList (bt (textOf (x0 0 0)) 0).toNat.toUInt8
def e5 (x0 : Nat → Nat → PV) : Int := Lib.indexByte (⟨#[48, 49, 50, 51, 52, 53, 54, 55, 56, 57, 97, 98, 99, 100, 101, 102]⟩ : ByteArray).data.toList (bt (textOf (x0 0 0)) 1).toNat.toUInt8
def e6 (x0 : Nat → Nat → PV) : Nat → Nat → PV := rowOf 1 [.val (.int .u8 (IntKind.u8.wrap (bits .or .i64 (shlI .i64 (e4 x0) 4) (e5 x0))))]
def e7 (x0 : Nat → Nat → PV) (x1 : Int) : Int := Lib.indexByte (⟨#[48, 49, 50, 51, 52, 53, 54, 55, 56, 57, 97, 98, 99, 100, 101, 102]⟩ : ByteArray).data.toList (bt (textOf (x0 x1.toNat 0)) 0).toNat.toUInt8
def e8 (x0 : Nat → Nat → PV) (x1 : Int) : Int := Lib.indexByte (⟨#[48, 49, 50, 51, 52, 53, 54, 55, 56, 57, 97, 98, 99, 100, 101, 102]⟩ : ByteArray).data.toList (bt (textOf (x0 x1.toNat 0)) 1).toNat.toUInt8
def e9 (x0 : Nat → Nat → PV) (x1 : Int) : Nat → Nat → PV := rowOf 1 [.val (.int .u8 (IntKind.u8.wrap (bits .or .i64 (shlI .i64 (e7 x0 x1) 4) (e8 x0 x1))))]
/- weirgate/mac.Parse: loop 0 -/
def mac_Parse_L0_S  : List (Nat × Sm) := [(7, yes), (24, idxSm), (25, joinSm), (26, splitSm)]
def mac_Parse_L0_B  : Hooks := []
noncomputable def mac_Parse_L0_C  : Ctx := { tt := tt, eqs := has eql, call := runS tt (has eql) Tryd.prog.funcs 1152921504606846976 (mac_Parse_L0_S ) (mac_Parse_L0_B ) opts 40, fuel := 1152921504606846976, blk := fun i => aget [] i, bor := opts.bor }
def mac_Parse_L0_lo : Vx → List Nat := fun | .normal => [4] | .exit j => (fun _ => []) j | .ret => [2, 3]
def mac_Parse_L0_h0 (a_1 : Int) (a_2 : Int) (a_3 : Bool) (a_4 : Nat) (a_5 : Nat → Nat → PV) (a_6 : Nat) (a_7 : Nat → Nat → PV) : St := { n := 44, m := 0, t := [(4, .v (.c (.own 0))), (10, .v (.c (.own 1))), (11, .v (.c (.pv (.val (.int .i64 a_1))))), (12, .v (.c (.pv (.val (.int .i64 a_2)))))], h := [(0, .parr false a_3 (.int .u8 .nil) 1 a_4 (a_5)), (1, .parr false false (.str .nil) 1 a_6 (a_7))], nx := 2 }
def mac_Parse_L0_x0  : St := { n := 44, m := 0, t := [(2, .v (.c (.pv (.val (.int .u64 0))))), (3, .v (.c (.pv (.val (.int .i64 11)))))], h := [], nx := 0 }
def mac_Parse_L0_x1 (r0 : Bool) (r1 : Nat) (r2 : Nat → Nat → PV) : St := { n := 44, m := 0, t := [(4, .v (.c (.own 0)))], h := [(0, .parr false r0 (.int .u8 .nil) 1 r1 (r2))], nx := 1 }
def mac_Parse_L0_s0 {α : Type}  (rec0 : Int → Int → Bool → Nat → (Nat → Nat → PV) → Nat → (Nat → Nat → PV) → Option α) (k0 : Option α) (k1 : Bool → Nat → (Nat → Nat → PV) → Option α) (a_1 : Int) (a_2 : Int) (a_3 : Bool) (a_4 : Nat) (a_5 : Nat → Nat → PV) (a_6 : Nat) (a_7 : Nat → Nat → PV) : Option α := bif decide (a_2 < a_1) then
  bif inb a_2 a_6 then
   bif ((((textOf (a_7 a_2.toNat 0)).size : Nat) : Int) != 2) then
    k0
   else bif inb 0 ((textOf (a_7 a_2.toNat 0)).size) then
    bif inb 1 ((textOf (a_7 a_2.toNat 0)).size) then
     bif decide ((e7 a_7 a_2) < 0) then
      k0
     else bif decide ((e8 a_7 a_2) < 0) then
      k0
     else bif Nat.ble ((a_4 + 1) * 1) bound then
      rec0 a_1 (IntKind.i64.wrap (a_2 + 1)) (a_3 && false) (a_4 + 1) (catf a_4 (a_5) (e9 a_7 a_2)) a_6 a_7
     else none /- test -/
    else none /- test -/
   else none /- test -/
  else none /- test -/
 else k1 a_3 a_4 a_5
def mac_Parse_L0_l0 {α : Type} (k0 : Option α) (k1 : Bool → Nat → (Nat → Nat → PV) → Option α) : Nat → Int → Int → Bool → Nat → (Nat → Nat → PV) → Nat → (Nat → Nat → PV) → Option α
  | 0 => fun _ _ _ _ _ _ _ => none
  | n + 1 => mac_Parse_L0_s0  (mac_Parse_L0_l0 k0 k1 n) k0 k1
theorem mac_Parse_L0_s0_eq  (k : Kont) (n : Nat) (a_1 : Int) (a_2 : Int) (a_3 : Bool) (a_4 : Nat) (a_5 : Nat → Nat → PV) (a_6 : Nat) (a_7 : Nat → Nat → PV) : loopN (fun st k => exec (mac_Parse_L0_C ) (loopBody (codeAt Tryd.f11 0)) st k) [4, 10, 11, 12] (loopK 0 (kn mac_Parse_L0_lo k)) (n + 1) (mac_Parse_L0_h0 a_1 a_2 a_3 a_4 a_5 a_6 a_7) = mac_Parse_L0_s0  (fun a_1 a_2 a_3 a_4 a_5 a_6 a_7 => loopN (fun st k => exec (mac_Parse_L0_C ) (loopBody (codeAt Tryd.f11 0)) st k) [4, 10, 11, 12] (loopK 0 (kn mac_Parse_L0_lo k)) n (mac_Parse_L0_h0 a_1 a_2 a_3 a_4 a_5 a_6 a_7)) (k .ret (mac_Parse_L0_x0)) (fun r0 r1 r2 => k .normal (mac_Parse_L0_x1 r0 r1 r2)) a_1 a_2 a_3 a_4 a_5 a_6 a_7 := by kernel_rfl
theorem mac_Parse_L0_l0_eq (k : Kont) : ∀ (n : Nat) (a_1 : Int) (a_2 : Int) (a_3 : Bool) (a_4 : Nat) (a_5 : Nat → Nat → PV) (a_6 : Nat) (a_7 : Nat → Nat → PV), loopN (fun st k => exec (mac_Parse_L0_C ) (loopBody (codeAt Tryd.f11 0)) st k) [4, 10, 11, 12] (loopK 0 (kn mac_Parse_L0_lo k)) n (mac_Parse_L0_h0 a_1 a_2 a_3 a_4 a_5 a_6 a_7) = mac_Parse_L0_l0 (k .ret (mac_Parse_L0_x0)) (fun r0 r1 r2 => k .normal (mac_Parse_L0_x1 r0 r1 r2)) n a_1 a_2 a_3 a_4 a_5 a_6 a_7
  | 0, _, _, _, _, _, _, _ => rfl
  | n + 1, a_1, a_2, a_3, a_4, a_5, a_6, a_7 => by
    have r0 : (fun a_1 a_2 a_3 a_4 a_5 a_6 a_7 => loopN (fun st k => exec (mac_Parse_L0_C ) (loopBody (codeAt Tryd.f11 0)) st k) [4, 10, 11, 12] (loopK 0 (kn mac_Parse_L0_lo k)) n (mac_Parse_L0_h0 a_1 a_2 a_3 a_4 a_5 a_6 a_7)) = mac_Parse_L0_l0 (k .ret (mac_Parse_L0_x0)) (fun r0 r1 r2 => k .normal (mac_Parse_L0_x1 r0 r1 r2)) n := funext fun a_1 => funext fun a_2 => funext fun a_3 => funext fun a_4 => funext fun a_5 => funext fun a_6 => funext fun a_7 => mac_Parse_L0_l0_eq k n a_1 a_2 a_3 a_4 a_5 a_6 a_7
    exact (mac_Parse_L0_s0_eq  k n a_1 a_2 a_3 a_4 a_5 a_6 a_7).trans (by rw [r0]; rfl)
def mac_Parse_L0 {α : Type} (a_1 : Int) (a_2 : Nat → Nat → PV) (a_3 : Nat) (a_4 : Nat → Nat → PV) (k0 : Option α) (k1 : Bool → Nat → (Nat → Nat → PV) → Option α) : Option α := mac_Parse_L0_l0 k0 k1 1152921504606846976 a_1 0 true 0 a_2 a_3 a_4
def mac_Parse_L0_e (a_1 : Int) (a_2 : Nat → Nat → PV) (a_3 : Nat) (a_4 : Nat → Nat → PV) : St := { n := 44, m := 0, t := [(4, .v (.c (.own 0))), (10, .v (.c (.own 1))), (11, .v (.c (.pv (.val (.int .i64 a_1))))), (12, .v (.c (.pv (.val (.int .i64 0)))))], h := [(0, .parr false true (.int .u8 .nil) 1 0 (a_2)), (1, .parr false false (.str .nil) 1 a_3 (a_4))], nx := 2 }
theorem mac_Parse_L0_eq (a_1 : Int) (a_2 : Nat → Nat → PV) (a_3 : Nat) (a_4 : Nat → Nat → PV) (k : Kont) : exec (mac_Parse_L0_C ) (codeAt Tryd.f11 0) (mac_Parse_L0_e a_1 a_2 a_3 a_4) (kn mac_Parse_L0_lo k) = mac_Parse_L0 a_1 a_2 a_3 a_4 (k .ret (mac_Parse_L0_x0)) (fun r0 r1 r2 => k .normal (mac_Parse_L0_x1 r0 r1 r2)) :=
  (by kernel_rfl : _ = loopN (fun st k => exec (mac_Parse_L0_C ) (loopBody (codeAt Tryd.f11 0)) st k) [4, 10, 11, 12] (loopK 0 (kn mac_Parse_L0_lo k)) 1152921504606846976 (mac_Parse_L0_h0 a_1 0 true 0 a_2 a_3 a_4)).trans (mac_Parse_L0_l0_eq k 1152921504606846976 a_1 0 true 0 a_2 a_3 a_4)
def mac_Parse_L0_p : PSt := { n := 44, m := 0, t := [(4, .v (.c (.own 0))), (10, .v (.c (.own 1))), (11, .v (.c (.pv (.int .i64 .h)))), (12, .v (.c (.pv (.int .i64 (.l 0)))))], h := [(0, .parr (.l false) (.l true) (.int .u8 .nil) 1 (.l 0)), (1, .parr (.l false) (.l false) (.str .nil) 1 .h)], nx := 2 }
def mac_Parse_L0_F (h : List Hole) (k : Kont) : Option Out := mac_Parse_L0 (gI h 0) (gF h 1) (gN h 2) (gF h 3) (k .ret (mac_Parse_L0_x0)) (fun r0 r1 r2 => k .normal (mac_Parse_L0_x1 r0 r1 r2))
theorem mac_Parse_L0_at (h : List Hole) : BodyAt Tryd.prog (codeAt Tryd.f11 0) (stFill mac_Parse_L0_p h) (mac_Parse_L0_F h) := by
  have e : stFill mac_Parse_L0_p h = mac_Parse_L0_e (gI h 0) (gF h 1) (gN h 2) (gF h 3) := by kernel_rfl
  rw [e]; exact bodyAt_of (C := mac_Parse_L0_C ) ⟨ttOk, eqOk, runS_ok ttOk eqOk mixed (names_ok namesOk) (S := mac_Parse_L0_S ) (sums_cons yes7_ok (sums_cons idx_ok (sums_cons join_ok (sums_cons split_ok (sums_nil))))) (B := mac_Parse_L0_B ) (hooks_nil) opts 40⟩ mixed (hooked_in (by kernel_rfl) blk_nil 0) fun k => mac_Parse_L0_eq _ _ _ _ k
/- weirgate/mac.Parse -/
def mac_Parse_T {α : Type} (Gmac_Parse_L0 : Int → (Nat → Nat → PV) → Nat → (Nat → Nat → PV) → (Option α) → (Bool → Nat → (Nat → Nat → PV) → Option α) → Option α) (Gmac_Of : Bool → Nat → (Nat → Nat → PV) → (Int → Int → Option α) → Option α) (a_1 : ByteArray) (k0 : Int → Int → Option α) : Option α := bif splitOk a_1 (⟨#[58]⟩ : ByteArray) then
  Gmac_Parse_L0 ((splitN a_1 (⟨#[58]⟩ : ByteArray) : Nat) : Int) (fun _ _ => .val undef) (splitN a_1 (⟨#[58]⟩ : ByteArray)) (splitRow a_1 (⟨#[58]⟩ : ByteArray))
   (k0 0 11)
   (fun r_2 r_3 r_4 => Gmac_Of r_2 r_3 r_4
    (fun r_5 r_6 => k0 r_5 r_6))
 else none /- test -/
def mac_Parse {α : Type} (a_1 : ByteArray) (k0 : Int → Int → Option α) : Option α := mac_Parse_T mac_Parse_L0 mac_Of a_1 k0
def mac_Parse_S (Gmac_Parse_L0 : Int → (Nat → Nat → PV) → Nat → (Nat → Nat → PV) → (Option Out) → (Bool → Nat → (Nat → Nat → PV) → Option Out) → Option Out) (Gmac_Of : Bool → Nat → (Nat → Nat → PV) → (Int → Int → Option Out) → Option Out) : List (Nat × Sm) := [(7, yes), (24, idxSm), (25, joinSm), (26, splitSm), (9, smOf [(mac_Of_p, fun h k => Gmac_Of (gB h 0) (gN h 1) (gF h 2) (fun r0 r1 => k (.tup [.c (.pv (.val (.int .u64 r0))), .c (.pv (.val (.int .i64 r1)))]) []))])]
def mac_Parse_B (Gmac_Parse_L0 : Int → (Nat → Nat → PV) → Nat → (Nat → Nat → PV) → (Option Out) → (Bool → Nat → (Nat → Nat → PV) → Option Out) → Option Out) (Gmac_Of : Bool → Nat → (Nat → Nat → PV) → (Int → Int → Option Out) → Option Out) : Hooks := [(11, [(0, hookG [4, 10, 11, 12] [(4, (.int .u8 .nil), 1)] (bkOf [(mac_Parse_L0_p, fun h k => Gmac_Parse_L0 (gI h 0) (gF h 1) (gN h 2) (gF h 3) (k .ret (mac_Parse_L0_x0)) (fun r0 r1 r2 => k .normal (mac_Parse_L0_x1 r0 r1 r2)))]))])]
theorem mac_Parse_eq (Gmac_Parse_L0 : Int → (Nat → Nat → PV) → Nat → (Nat → Nat → PV) → (Option Out) → (Bool → Nat → (Nat → Nat → PV) → Option Out) → Option Out) (Gmac_Of : Bool → Nat → (Nat → Nat → PV) → (Int → Int → Option Out) → Option Out) (a_1 : ByteArray) (k : FK) : runS tt (has eql) Tryd.prog.funcs 1152921504606846976 (mac_Parse_S Gmac_Parse_L0 Gmac_Of) (mac_Parse_B Gmac_Parse_L0 Gmac_Of) opts 40 11 [.v (.c (.pv (.val (.string a_1))))] [] k = mac_Parse_T Gmac_Parse_L0 Gmac_Of a_1 (fun r0 r1 => k (.tup [.c (.pv (.val (.int .u64 r0))), .c (.pv (.val (.int .i64 r1)))]) []) := by kernel_rfl
def mac_Parse_p : PAr := ⟨[.v (.c (.pv (.str)))], []⟩
def mac_Parse_F (h : List Hole) (k : FK) : Option Out := mac_Parse (gS h 0) (fun r0 r1 => k (.tup [.c (.pv (.val (.int .u64 r0))), .c (.pv (.val (.int .i64 r1)))]) [])
theorem mac_Parse_at (h : List Hole) : CallAt Tryd.prog 11 (arFill mac_Parse_p h).1 (arFill mac_Parse_p h).2 (mac_Parse_F h) := by
  have e : arFill mac_Parse_p h = ([.v (.c (.pv (.val (.string (gS h 0)))))], []) := by kernel_rfl
  rw [e]; exact callAt_of (runS_ok ttOk eqOk mixed (names_ok namesOk) (S := mac_Parse_S mac_Parse_L0 mac_Of) (sums_cons yes7_ok (sums_cons idx_ok (sums_cons join_ok (sums_cons split_ok (sums_cons (smOf_ok (alts_cons mac_Of_at alts_nil)) (sums_nil)))))) (B := mac_Parse_B mac_Parse_L0 mac_Of) (hooks_add (fn := Tryd.f11) (by kernel_rfl) (by kernel_rfl) (blk_cons (bkOf_ok (blts_cons mac_Parse_L0_at blts_nil)) blk_nil) (hooks_nil)) opts 40) fun k => mac_Parse_eq mac_Parse_L0 mac_Of _ k
def e10 (x0 : Int) : Int := bt (⟨#[48, 49, 50, 51, 52, 53, 54, 55, 56, 57, 97, 98, 99, 100, 101, 102]⟩ : ByteArray) x0
/- weirgate/weirgateref09.Parse: loop 2 -/
def ref09_Parse_L2_S  : List (Nat × Sm) := [(7, yes), (24, idxSm), (25, joinSm), (26, splitSm)]
def ref09_Parse_L2_B  : Hooks := []
noncomputable def ref09_Parse_L2_C  : Ctx := { tt := tt, eqs := has eql, call := runS tt (has eql) Tryd.prog.funcs 1152921504606846976 (ref09_Parse_L2_S ) (ref09_Parse_L2_B ) opts 40, fuel := 1152921504606846976, blk := fun i => aget [] i, bor := opts.bor }
def ref09_Parse_L2_lo : Vx → List Nat := fun | .normal => [0, 4, 5, 6] | .exit j => bif Nat.beq j 1 then [0, 4, 5] else bif Nat.beq j 0 then [0, 4] else [] | .ret => [2, 3]
def ref09_Parse_L2_h0 (a_1 : ByteArray) (a_2 : Int) (a_3 : Int) : St := { n := 41, m := 0, t := [(0, .v (.c (.pv (.val (.string a_1))))), (4, .v (.c (.pv (.val (.int .u64 0))))), (5, .v (.c (.pv (.val (.int .i64 0))))), (6, .v (.c (.pv (.val (.int .i64 a_2))))), (7, .v (.c (.pv (.val (.int .i64 a_3)))))], h := [], nx := 0 }
def ref09_Parse_L2_x0 (r0 : ByteArray) (r1 : Int) : St := { n := 41, m := 0, t := [(0, .v (.c (.pv (.val (.string r0))))), (4, .v (.c (.pv (.val (.int .u64 0))))), (5, .v (.c (.pv (.val (.int .i64 0))))), (6, .v (.c (.pv (.val (.int .i64 r1)))))], h := [], nx := 0 }
def ref09_Parse_L2_s0 {α : Type}  (rec0 : ByteArray → Int → Int → Option α) (k0 : ByteArray → Int → Option α) (a_1 : ByteArray) (a_2 : Int) (a_3 : Int) : Option α := bif decide (a_3 < 16) then
  bif inb a_3 16 then
   bif inb 0 a_1.size then
    bif ((e10 a_3) == (bt a_1 0)) then
     rec0 a_1 a_3 (IntKind.i64.wrap (a_3 + 1))
    else rec0 a_1 a_2 (IntKind.i64.wrap (a_3 + 1))
   else none /- test -/
  else none /- test -/
 else k0 a_1 a_2
def ref09_Parse_L2_l0 {α : Type} (k0 : ByteArray → Int → Option α) : Nat → ByteArray → Int → Int → Option α
  | 0 => fun _ _ _ => none
  | n + 1 => ref09_Parse_L2_s0  (ref09_Parse_L2_l0 k0 n) k0
theorem ref09_Parse_L2_s0_eq  (k : Kont) (n : Nat) (a_1 : ByteArray) (a_2 : Int) (a_3 : Int) : loopN (fun st k => exec (ref09_Parse_L2_C ) (loopBody (codeAt Tryd.f12 2)) st k) [0, 4, 5, 6, 7] (loopK 2 (kn ref09_Parse_L2_lo k)) (n + 1) (ref09_Parse_L2_h0 a_1 a_2 a_3) = ref09_Parse_L2_s0  (fun a_1 a_2 a_3 => loopN (fun st k => exec (ref09_Parse_L2_C ) (loopBody (codeAt Tryd.f12 2)) st k) [0, 4, 5, 6, 7] (loopK 2 (kn ref09_Parse_L2_lo k)) n (ref09_Parse_L2_h0 a_1 a_2 a_3)) (fun r0 r1 => k .normal (ref09_Parse_L2_x0 r0 r1)) a_1 a_2 a_3 := by kernel_rfl
theorem ref09_Parse_L2_l0_eq (k : Kont) : ∀ (n : Nat) (a_1 : ByteArray) (a_2 : Int) (a_3 : Int), loopN (fun st k => exec (ref09_Parse_L2_C ) (loopBody (codeAt Tryd.f12 2)) st k) [0, 4, 5, 6, 7] (loopK 2 (kn ref09_Parse_L2_lo k)) n (ref09_Parse_L2_h0 a_1 a_2 a_3) = ref09_Parse_L2_l0 (fun r0 r1 => k .normal (ref09_Parse_L2_x0 r0 r1)) n a_1 a_2 a_3
  | 0, _, _, _ => rfl
  | n + 1, a_1, a_2, a_3 => by
    have r0 : (fun a_1 a_2 a_3 => loopN (fun st k => exec (ref09_Parse_L2_C ) (loopBody (codeAt Tryd.f12 2)) st k) [0, 4, 5, 6, 7] (loopK 2 (kn ref09_Parse_L2_lo k)) n (ref09_Parse_L2_h0 a_1 a_2 a_3)) = ref09_Parse_L2_l0 (fun r0 r1 => k .normal (ref09_Parse_L2_x0 r0 r1)) n := funext fun a_1 => funext fun a_2 => funext fun a_3 => ref09_Parse_L2_l0_eq k n a_1 a_2 a_3
    exact (ref09_Parse_L2_s0_eq  k n a_1 a_2 a_3).trans (by rw [r0]; rfl)
def ref09_Parse_L2 {α : Type} (a_1 : ByteArray) (k0 : ByteArray → Int → Option α) : Option α := ref09_Parse_L2_l0 k0 1152921504606846976 a_1 (-1) 0
def ref09_Parse_L2_e (a_1 : ByteArray) : St := { n := 41, m := 0, t := [(0, .v (.c (.pv (.val (.string a_1))))), (4, .v (.c (.pv (.val (.int .u64 0))))), (5, .v (.c (.pv (.val (.int .i64 0))))), (6, .v (.c (.pv (.val (.int .i64 (-1)))))), (7, .v (.c (.pv (.val (.int .i64 0)))))], h := [], nx := 0 }
theorem ref09_Parse_L2_eq (a_1 : ByteArray) (k : Kont) : exec (ref09_Parse_L2_C ) (codeAt Tryd.f12 2) (ref09_Parse_L2_e a_1) (kn ref09_Parse_L2_lo k) = ref09_Parse_L2 a_1 (fun r0 r1 => k .normal (ref09_Parse_L2_x0 r0 r1)) :=
  (by kernel_rfl : _ = loopN (fun st k => exec (ref09_Parse_L2_C ) (loopBody (codeAt Tryd.f12 2)) st k) [0, 4, 5, 6, 7] (loopK 2 (kn ref09_Parse_L2_lo k)) 1152921504606846976 (ref09_Parse_L2_h0 a_1 (-1) 0)).trans (ref09_Parse_L2_l0_eq k 1152921504606846976 a_1 (-1) 0)
def ref09_Parse_L2_p : PSt := { n := 41, m := 0, t := [(0, .v (.c (.pv (.str)))), (4, .v (.c (.pv (.int .u64 (.l 0))))), (5, .v (.c (.pv (.int .i64 (.l 0))))), (6, .v (.c (.pv (.int .i64 (.l (-1)))))), (7, .v (.c (.pv (.int .i64 (.l 0)))))], h := [], nx := 0 }
def ref09_Parse_L2_F (h : List Hole) (k : Kont) : Option Out := ref09_Parse_L2 (gS h 0) (fun r0 r1 => k .normal (ref09_Parse_L2_x0 r0 r1))
theorem ref09_Parse_L2_at (h : List Hole) : BodyAt Tryd.prog (codeAt Tryd.f12 2) (stFill ref09_Parse_L2_p h) (ref09_Parse_L2_F h) := by
  have e : stFill ref09_Parse_L2_p h = ref09_Parse_L2_e (gS h 0) := by kernel_rfl
  rw [e]; exact bodyAt_of (C := ref09_Parse_L2_C ) ⟨ttOk, eqOk, runS_ok ttOk eqOk mixed (names_ok namesOk) (S := ref09_Parse_L2_S ) (sums_cons yes7_ok (sums_cons idx_ok (sums_cons join_ok (sums_cons split_ok (sums_nil))))) (B := ref09_Parse_L2_B ) (hooks_nil) opts 40⟩ mixed (hooked_in (by kernel_rfl) blk_nil 2) fun k => ref09_Parse_L2_eq _ k
/- weirgate/weirgateref09.Parse: loop 2 -/
def ref09_Parse_L2_v1_S  : List (Nat × Sm) := [(7, yes), (24, idxSm), (25, joinSm), (26, splitSm)]
def ref09_Parse_L2_v1_B  : Hooks := []
noncomputable def ref09_Parse_L2_v1_C  : Ctx := { tt := tt, eqs := has eql, call := runS tt (has eql) Tryd.prog.funcs 1152921504606846976 (ref09_Parse_L2_v1_S ) (ref09_Parse_L2_v1_B ) opts 40, fuel := 1152921504606846976, blk := fun i => aget [] i, bor := opts.bor }
def ref09_Parse_L2_v1_lo : Vx → List Nat := fun | .normal => [0, 4, 5, 6] | .exit j => bif Nat.beq j 1 then [0, 4, 5] else bif Nat.beq j 0 then [0, 4] else [] | .ret => [2, 3]
def ref09_Parse_L2_v1_h0 (a_1 : ByteArray) (a_2 : Int) (a_3 : Int) (a_4 : Int) (a_5 : Int) : St := { n := 41, m := 0, t := [(0, .v (.c (.pv (.val (.string a_1))))), (4, .v (.c (.pv (.val (.int .u64 a_2))))), (5, .v (.c (.pv (.val (.int .i64 a_3))))), (6, .v (.c (.pv (.val (.int .i64 a_4))))), (7, .v (.c (.pv (.val (.int .i64 a_5)))))], h := [], nx := 0 }
def ref09_Parse_L2_v1_x0 (r0 : ByteArray) (r1 : Int) (r2 : Int) (r3 : Int) : St := { n := 41, m := 0, t := [(0, .v (.c (.pv (.val (.string r0))))), (4, .v (.c (.pv (.val (.int .u64 r1))))), (5, .v (.c (.pv (.val (.int .i64 r2))))), (6, .v (.c (.pv (.val (.int .i64 r3)))))], h := [], nx := 0 }
def ref09_Parse_L2_v1_s0 {α : Type}  (rec0 : ByteArray → Int → Int → Int → Int → Option α) (k0 : ByteArray → Int → Int → Int → Option α) (a_1 : ByteArray) (a_2 : Int) (a_3 : Int) (a_4 : Int) (a_5 : Int) : Option α := bif decide (a_5 < 16) then
  bif inb a_5 16 then
   bif inb a_3 a_1.size then
    bif ((e10 a_5) == (bt a_1 a_3)) then
     rec0 a_1 a_2 a_3 a_5 (IntKind.i64.wrap (a_5 + 1))
    else rec0 a_1 a_2 a_3 a_4 (IntKind.i64.wrap (a_5 + 1))
   else none /- test -/
  else none /- test -/
 else k0 a_1 a_2 a_3 a_4
def ref09_Parse_L2_v1_l0 {α : Type} (k0 : ByteArray → Int → Int → Int → Option α) : Nat → ByteArray → Int → Int → Int → Int → Option α
  | 0 => fun _ _ _ _ _ => none
  | n + 1 => ref09_Parse_L2_v1_s0  (ref09_Parse_L2_v1_l0 k0 n) k0
theorem ref09_Parse_L2_v1_s0_eq  (k : Kont) (n : Nat) (a_1 : ByteArray) (a_2 : Int) (a_3 : Int) (a_4 : Int) (a_5 : Int) : loopN (fun st k => exec (ref09_Parse_L2_v1_C ) (loopBody (codeAt Tryd.f12 2)) st k) [0, 4, 5, 6, 7] (loopK 2 (kn ref09_Parse_L2_v1_lo k)) (n + 1) (ref09_Parse_L2_v1_h0 a_1 a_2 a_3 a_4 a_5) = ref09_Parse_L2_v1_s0  (fun a_1 a_2 a_3 a_4 a_5 => loopN (fun st k => exec (ref09_Parse_L2_v1_C ) (loopBody (codeAt Tryd.f12 2)) st k) [0, 4, 5, 6, 7] (loopK 2 (kn ref09_Parse_L2_v1_lo k)) n (ref09_Parse_L2_v1_h0 a_1 a_2 a_3 a_4 a_5)) (fun r0 r1 r2 r3 => k .normal (ref09_Parse_L2_v1_x0 r0 r1 r2 r3)) a_1 a_2 a_3 a_4 a_5 := by kernel_rfl
theorem ref09_Parse_L2_v1_l0_eq (k : Kont) : ∀ (n : Nat) (a_1 : ByteArray) (a_2 : Int) (a_3 : Int) (a_4 : Int) (a_5 : Int), loopN (fun st k => exec (ref09_Parse_L2_v1_C ) (loopBody (codeAt Tryd.f12 2)) st k) [0, 4, 5, 6, 7] (loopK 2 (kn ref09_Parse_L2_v1_lo k)) n (ref09_Parse_L2_v1_h0 a_1 a_2 a_3 a_4 a_5) = ref09_Parse_L2_v1_l0 (fun r0 r1 r2 r3 => k .normal (ref09_Parse_L2_v1_x0 r0 r1 r2 r3)) n a_1 a_2 a_3 a_4 a_5
  | 0, _, _, _, _, _ => rfl
  | n + 1, a_1, a_2, a_3, a_4, a_5 => by
    have r0 : (fun a_1 a_2 a_3 a_4 a_5 => loopN (fun st k => exec (ref09_Parse_L2_v1_C ) (loopBody (codeAt Tryd.f12 2)) st k) [0, 4, 5, 6, 7] (loopK 2 (kn ref09_Parse_L2_v1_lo k)) n (ref09_Parse_L2_v1_h0 a_1 a_2 a_3 a_4 a_5)) = ref09_Parse_L2_v1_l0 (fun r0 r1 r2 r3 => k .normal (ref09_Parse_L2_v1_x0 r0 r1 r2 r3)) n := funext fun a_1 => funext fun a_2 => funext fun a_3 => funext fun a_4 => funext fun a_5 => ref09_Parse_L2_v1_l0_eq k n a_1 a_2 a_3 a_4 a_5
    exact (ref09_Parse_L2_v1_s0_eq  k n a_1 a_2 a_3 a_4 a_5).trans (by rw [r0]; rfl)
def ref09_Parse_L2_v1 {α : Type} (a_1 : ByteArray) (a_2 : Int) (a_3 : Int) (k0 : ByteArray → Int → Int → Int → Option α) : Option α := ref09_Parse_L2_v1_l0 k0 1152921504606846976 a_1 a_2 a_3 (-1) 0
def ref09_Parse_L2_v1_e (a_1 : ByteArray) (a_2 : Int) (a_3 : Int) : St := { n := 41, m := 0, t := [(0, .v (.c (.pv (.val (.string a_1))))), (4, .v (.c (.pv (.val (.int .u64 a_2))))), (5, .v (.c (.pv (.val (.int .i64 a_3))))), (6, .v (.c (.pv (.val (.int .i64 (-1)))))), (7, .v (.c (.pv (.val (.int .i64 0)))))], h := [], nx := 0 }
theorem ref09_Parse_L2_v1_eq (a_1 : ByteArray) (a_2 : Int) (a_3 : Int) (k : Kont) : exec (ref09_Parse_L2_v1_C ) (codeAt Tryd.f12 2) (ref09_Parse_L2_v1_e a_1 a_2 a_3) (kn ref09_Parse_L2_v1_lo k) = ref09_Parse_L2_v1 a_1 a_2 a_3 (fun r0 r1 r2 r3 => k .normal (ref09_Parse_L2_v1_x0 r0 r1 r2 r3)) :=
  (by kernel_rfl : _ = loopN (fun st k => exec (ref09_Parse_L2_v1_C ) (loopBody (codeAt Tryd.f12 2)) st k) [0, 4, 5, 6, 7] (loopK 2 (kn ref09_Parse_L2_v1_lo k)) 1152921504606846976 (ref09_Parse_L2_v1_h0 a_1 a_2 a_3 (-1) 0)).trans (ref09_Parse_L2_v1_l0_eq k 1152921504606846976 a_1 a_2 a_3 (-1) 0)
def ref09_Parse_L2_v1_p : PSt := { n := 41, m := 0, t := [(0, .v (.c (.pv (.str)))), (4, .v (.c (.pv (.int .u64 .h)))), (5, .v (.c (.pv (.int .i64 .h)))), (6, .v (.c (.pv (.int .i64 (.l (-1)))))), (7, .v (.c (.pv (.int .i64 (.l 0)))))], h := [], nx := 0 }
def ref09_Parse_L2_v1_F (h : List Hole) (k : Kont) : Option Out := ref09_Parse_L2_v1 (gS h 0) (gI h 1) (gI h 2) (fun r0 r1 r2 r3 => k .normal (ref09_Parse_L2_v1_x0 r0 r1 r2 r3))
theorem ref09_Parse_L2_v1_at (h : List Hole) : BodyAt Tryd.prog (codeAt Tryd.f12 2) (stFill ref09_Parse_L2_v1_p h) (ref09_Parse_L2_v1_F h) := by
  have e : stFill ref09_Parse_L2_v1_p h = ref09_Parse_L2_v1_e (gS h 0) (gI h 1) (gI h 2) := by kernel_rfl
  rw [e]; exact bodyAt_of (C := ref09_Parse_L2_v1_C ) ⟨ttOk, eqOk, runS_ok ttOk eqOk mixed (names_ok namesOk) (S := ref09_Parse_L2_v1_S ) (sums_cons yes7_ok (sums_cons idx_ok (sums_cons join_ok (sums_cons split_ok (sums_nil))))) (B := ref09_Parse_L2_v1_B ) (hooks_nil) opts 40⟩ mixed (hooked_in (by kernel_rfl) blk_nil 2) fun k => ref09_Parse_L2_v1_eq _ _ _ k
/- weirgate/weirgateref09.Parse: loop 0 -/
def ref09_Parse_L0_S (Gref09_Parse_L2_v1 : ByteArray → Int → Int → (ByteArray → Int → Int → Int → Option Out) → Option Out) : List (Nat × Sm) := [(7, yes), (24, idxSm), (25, joinSm), (26, splitSm)]
def ref09_Parse_L0_B (Gref09_Parse_L2_v1 : ByteArray → Int → Int → (ByteArray → Int → Int → Int → Option Out) → Option Out) : Hooks := []
noncomputable def ref09_Parse_L0_C (Gref09_Parse_L2_v1 : ByteArray → Int → Int → (ByteArray → Int → Int → Int → Option Out) → Option Out) : Ctx := { tt := tt, eqs := has eql, call := runS tt (has eql) Tryd.prog.funcs 1152921504606846976 (ref09_Parse_L0_S Gref09_Parse_L2_v1) (ref09_Parse_L0_B Gref09_Parse_L2_v1) opts 40, fuel := 1152921504606846976, blk := fun i => aget [(2, hookG [0, 4, 5, 6, 7] [] (bkOf [(ref09_Parse_L2_v1_p, fun h k => Gref09_Parse_L2_v1 (gS h 0) (gI h 1) (gI h 2) (fun r0 r1 r2 r3 => k .normal (ref09_Parse_L2_v1_x0 r0 r1 r2 r3))), (ref09_Parse_L2_p, ref09_Parse_L2_F)]))] i, bor := opts.bor }
def ref09_Parse_L0_lo : Vx → List Nat := fun | .normal => [0, 4] | .exit j => (fun _ => []) j | .ret => [2, 3]
def ref09_Parse_L0_h0 (a_1 : ByteArray) (a_2 : Int) (a_3 : Int) : St := { n := 41, m := 0, t := [(0, .v (.c (.pv (.val (.string a_1))))), (4, .v (.c (.pv (.val (.int .u64 a_2))))), (5, .v (.c (.pv (.val (.int .i64 a_3)))))], h := [], nx := 0 }
def ref09_Parse_L0_x0  : St := { n := 41, m := 0, t := [(2, .v (.c (.pv (.val (.int .u64 0))))), (3, .v (.c (.pv (.val (.int .i64 11)))))], h := [], nx := 0 }
def ref09_Parse_L0_x1 (r0 : ByteArray) (r1 : Int) : St := { n := 41, m := 0, t := [(0, .v (.c (.pv (.val (.string r0))))), (4, .v (.c (.pv (.val (.int .u64 r1)))))], h := [], nx := 0 }
def ref09_Parse_L0_s0 {α : Type} (Gref09_Parse_L2_v1 : ByteArray → Int → Int → (ByteArray → Int → Int → Int → Option α) → Option α) (rec0 : ByteArray → Int → Int → Option α) (k0 : Option α) (k1 : ByteArray → Int → Option α) (a_1 : ByteArray) (a_2 : Int) (a_3 : Int) : Option α := bif decide (a_3 < 17) then
  bif ((a_3.tmod 3) == 2) then
   rec0 a_1 a_2 (IntKind.i64.wrap (a_3 + 1))
  else Gref09_Parse_L2_v1 a_1 a_2 a_3
   (fun r_4 r_5 r_6 r_7 => bif decide (r_7 < 0) then
    k0
   else rec0 r_4 (IntKind.u64.wrap ((IntKind.u64.wrap (r_5 * 16)) + (IntKind.u64.wrap r_7))) (IntKind.i64.wrap (r_6 + 1)))
 else k1 a_1 a_2
def ref09_Parse_L0_l0 {α : Type} (k0 : Option α) (k1 : ByteArray → Int → Option α) : Nat → ByteArray → Int → Int → Option α
  | 0 => fun _ _ _ => none
  | n + 1 => ref09_Parse_L0_s0 ref09_Parse_L2_v1 (ref09_Parse_L0_l0 k0 k1 n) k0 k1
theorem ref09_Parse_L0_s0_eq (Gref09_Parse_L2_v1 : ByteArray → Int → Int → (ByteArray → Int → Int → Int → Option Out) → Option Out) (k : Kont) (n : Nat) (a_1 : ByteArray) (a_2 : Int) (a_3 : Int) : loopN (fun st k => exec (ref09_Parse_L0_C Gref09_Parse_L2_v1) (loopBody (codeAt Tryd.f12 0)) st k) [0, 4, 5] (loopK 0 (kn ref09_Parse_L0_lo k)) (n + 1) (ref09_Parse_L0_h0 a_1 a_2 a_3) = ref09_Parse_L0_s0 Gref09_Parse_L2_v1 (fun a_1 a_2 a_3 => loopN (fun st k => exec (ref09_Parse_L0_C Gref09_Parse_L2_v1) (loopBody (codeAt Tryd.f12 0)) st k) [0, 4, 5] (loopK 0 (kn ref09_Parse_L0_lo k)) n (ref09_Parse_L0_h0 a_1 a_2 a_3)) (k .ret (ref09_Parse_L0_x0)) (fun r0 r1 => k .normal (ref09_Parse_L0_x1 r0 r1)) a_1 a_2 a_3 := by kernel_rfl
theorem ref09_Parse_L0_l0_eq (k : Kont) : ∀ (n : Nat) (a_1 : ByteArray) (a_2 : Int) (a_3 : Int), loopN (fun st k => exec (ref09_Parse_L0_C ref09_Parse_L2_v1) (loopBody (codeAt Tryd.f12 0)) st k) [0, 4, 5] (loopK 0 (kn ref09_Parse_L0_lo k)) n (ref09_Parse_L0_h0 a_1 a_2 a_3) = ref09_Parse_L0_l0 (k .ret (ref09_Parse_L0_x0)) (fun r0 r1 => k .normal (ref09_Parse_L0_x1 r0 r1)) n a_1 a_2 a_3
  | 0, _, _, _ => rfl
  | n + 1, a_1, a_2, a_3 => by
    have r0 : (fun a_1 a_2 a_3 => loopN (fun st k => exec (ref09_Parse_L0_C ref09_Parse_L2_v1) (loopBody (codeAt Tryd.f12 0)) st k) [0, 4, 5] (loopK 0 (kn ref09_Parse_L0_lo k)) n (ref09_Parse_L0_h0 a_1 a_2 a_3)) = ref09_Parse_L0_l0 (k .ret (ref09_Parse_L0_x0)) (fun r0 r1 => k .normal (ref09_Parse_L0_x1 r0 r1)) n := funext fun a_1 => funext fun a_2 => funext fun a_3 => ref09_Parse_L0_l0_eq k n a_1 a_2 a_3
    exact (ref09_Parse_L0_s0_eq ref09_Parse_L2_v1 k n a_1 a_2 a_3).trans (by rw [r0]; rfl)
def ref09_Parse_L0 {α : Type} (a_1 : ByteArray) (k0 : Option α) (k1 : ByteArray → Int → Option α) : Option α := ref09_Parse_L0_l0 k0 k1 1152921504606846976 a_1 0 0
def ref09_Parse_L0_e (a_1 : ByteArray) : St := { n := 41, m := 0, t := [(0, .v (.c (.pv (.val (.string a_1))))), (4, .v (.c (.pv (.val (.int .u64 0))))), (5, .v (.c (.pv (.val (.int .i64 0)))))], h := [], nx := 0 }
theorem ref09_Parse_L0_eq (a_1 : ByteArray) (k : Kont) : exec (ref09_Parse_L0_C ref09_Parse_L2_v1) (codeAt Tryd.f12 0) (ref09_Parse_L0_e a_1) (kn ref09_Parse_L0_lo k) = ref09_Parse_L0 a_1 (k .ret (ref09_Parse_L0_x0)) (fun r0 r1 => k .normal (ref09_Parse_L0_x1 r0 r1)) :=
  (by kernel_rfl : _ = loopN (fun st k => exec (ref09_Parse_L0_C ref09_Parse_L2_v1) (loopBody (codeAt Tryd.f12 0)) st k) [0, 4, 5] (loopK 0 (kn ref09_Parse_L0_lo k)) 1152921504606846976 (ref09_Parse_L0_h0 a_1 0 0)).trans (ref09_Parse_L0_l0_eq k 1152921504606846976 a_1 0 0)
def ref09_Parse_L0_p : PSt := { n := 41, m := 0, t := [(0, .v (.c (.pv (.str)))), (4, .v (.c (.pv (.int .u64 (.l 0))))), (5, .v (.c (.pv (.int .i64 (.l 0)))))], h := [], nx := 0 }
def ref09_Parse_L0_F (h : List Hole) (k : Kont) : Option Out := ref09_Parse_L0 (gS h 0) (k .ret (ref09_Parse_L0_x0)) (fun r0 r1 => k .normal (ref09_Parse_L0_x1 r0 r1))
theorem ref09_Parse_L0_at (h : List Hole) : BodyAt Tryd.prog (codeAt Tryd.f12 0) (stFill ref09_Parse_L0_p h) (ref09_Parse_L0_F h) := by
  have e : stFill ref09_Parse_L0_p h = ref09_Parse_L0_e (gS h 0) := by kernel_rfl
  rw [e]; exact bodyAt_of (C := ref09_Parse_L0_C ref09_Parse_L2_v1) ⟨ttOk, eqOk, runS_ok ttOk eqOk mixed (names_ok namesOk) (S := ref09_Parse_L0_S ref09_Parse_L2_v1) (sums_cons yes7_ok (sums_cons idx_ok (sums_cons join_ok (sums_cons split_ok (sums_nil))))) (B := ref09_Parse_L0_B ref09_Parse_L2_v1) (hooks_nil) opts 40⟩ mixed (hooked_in (by kernel_rfl) (blk_cons (bkOf_ok (blts_cons ref09_Parse_L2_v1_at (blts_cons ref09_Parse_L2_at blts_nil))) blk_nil) 0) fun k => ref09_Parse_L0_eq _ k
def e11 (x0 : Int) : Nat → Nat → PV := rowOf 1 [.val (.int .u8 (IntKind.u8.wrap (shrI .u64 x0 40))), .val (.int .u8 (IntKind.u8.wrap (shrI .u64 x0 32))), .val (.int .u8 (IntKind.u8.wrap (shrI .u64 x0 24))), .val (.int .u8 (IntKind.u8.wrap (shrI .u64 x0 16))), .val (.int .u8 (IntKind.u8.wrap (shrI .u64 x0 8))), .val (.int .u8 (IntKind.u8.wrap x0))]
def e12 (x0 : Int) : ByteArray := (⟨#[48, 49, 50, 51, 52, 53, 54, 55, 56, 57, 97, 98, 99, 100, 101, 102]⟩ : ByteArray).extract ((IntKind.u8.wrap ((IntKind.u8.wrap (shrI .u64 x0 40)).tdiv 16)).toNat) (((IntKind.u8.wrap ((IntKind.u8.wrap (shrI .u64 x0 40)).tdiv 16)).toNat) + (((IntKind.u8.wrap ((IntKind.u8.wrap ((IntKind.u8.wrap (shrI .u64 x0 40)).tdiv 16)) + 1)).toNat) - ((IntKind.u8.wrap ((IntKind.u8.wrap (shrI .u64 x0 40)).tdiv 16)).toNat)))
def e13 (x0 : Int) : ByteArray := (⟨#[48, 49, 50, 51, 52, 53, 54, 55, 56, 57, 97, 98, 99, 100, 101, 102]⟩ : ByteArray).extract (((IntKind.u8.wrap (shrI .u64 x0 40)).tmod 16).toNat) ((((IntKind.u8.wrap (shrI .u64 x0 40)).tmod 16).toNat) + (((IntKind.u8.wrap (((IntKind.u8.wrap (shrI .u64 x0 40)).tmod 16) + 1)).toNat) - (((IntKind.u8.wrap (shrI .u64 x0 40)).tmod 16).toNat)))
def e14 (x0 : Int) : ByteArray := (⟨#[48, 49, 50, 51, 52, 53, 54, 55, 56, 57, 97, 98, 99, 100, 101, 102]⟩ : ByteArray).extract ((IntKind.u8.wrap ((IntKind.u8.wrap (shrI .u64 x0 32)).tdiv 16)).toNat) (((IntKind.u8.wrap ((IntKind.u8.wrap (shrI .u64 x0 32)).tdiv 16)).toNat) + (((IntKind.u8.wrap ((IntKind.u8.wrap ((IntKind.u8.wrap (shrI .u64 x0 32)).tdiv 16)) + 1)).toNat) - ((IntKind.u8.wrap ((IntKind.u8.wrap (shrI .u64 x0 32)).tdiv 16)).toNat)))
def e15 (x0 : Int) : ByteArray := (⟨#[48, 49, 50, 51, 52, 53, 54, 55, 56, 57, 97, 98, 99, 100, 101, 102]⟩ : ByteArray).extract (((IntKind.u8.wrap (shrI .u64 x0 32)).tmod 16).toNat) ((((IntKind.u8.wrap (shrI .u64 x0 32)).tmod 16).toNat) + (((IntKind.u8.wrap (((IntKind.u8.wrap (shrI .u64 x0 32)).tmod 16) + 1)).toNat) - (((IntKind.u8.wrap (shrI .u64 x0 32)).tmod 16).toNat)))
def e16 (x0 : Int) : ByteArray := (((⟨#[]⟩ : ByteArray) ++ ((e12 x0) ++ (e13 x0))) ++ (⟨#[58]⟩ : ByteArray)) ++ ((e14 x0) ++ (e15 x0))
def e17 (x0 : Int) : ByteArray := (⟨#[48, 49, 50, 51, 52, 53, 54, 55, 56, 57, 97, 98, 99, 100, 101, 102]⟩ : ByteArray).extract ((IntKind.u8.wrap ((IntKind.u8.wrap (shrI .u64 x0 24)).tdiv 16)).toNat) (((IntKind.u8.wrap ((IntKind.u8.wrap (shrI .u64 x0 24)).tdiv 16)).toNat) + (((IntKind.u8.wrap ((IntKind.u8.wrap ((IntKind.u8.wrap (shrI .u64 x0 24)).tdiv 16)) + 1)).toNat) - ((IntKind.u8.wrap ((IntKind.u8.wrap (shrI .u64 x0 24)).tdiv 16)).toNat)))
def e18 (x0 : Int) : ByteArray := (⟨#[48, 49, 50, 51, 52, 53, 54, 55, 56, 57, 97, 98, 99, 100, 101, 102]⟩ : ByteArray).extract (((IntKind.u8.wrap (shrI .u64 x0 24)).tmod 16).toNat) ((((IntKind.u8.wrap (shrI .u64 x0 24)).tmod 16).toNat) + (((IntKind.u8.wrap (((IntKind.u8.wrap (shrI .u64 x0 24)).tmod 16) + 1)).toNat) - (((IntKind.u8.wrap (shrI .u64 x0 24)).tmod 16).toNat)))
def e19 (x0 : Int) : ByteArray := (((e16 x0) ++ (⟨#[58]⟩ : ByteArray)) ++ ((e17 x0) ++ (e18 x0))) ++ (⟨#[58]⟩ : ByteArray)
def e20 (x0 : Int) : ByteArray := (⟨#[48, 49, 50, 51, 52, 53, 54, 55, 56, 57, 97, 98, 99, 100, 101, 102]⟩ : ByteArray).extract ((IntKind.u8.wrap ((IntKind.u8.wrap (shrI .u64 x0 16)).tdiv 16)).toNat) (((IntKind.u8.wrap ((IntKind.u8.wrap (shrI .u64 x0 16)).tdiv 16)).toNat) + (((IntKind.u8.wrap ((IntKind.u8.wrap ((IntKind.u8.wrap (shrI .u64 x0 16)).tdiv 16)) + 1)).toNat) - ((IntKind.u8.wrap ((IntKind.u8.wrap (shrI .u64 x0 16)).tdiv 16)).toNat)))
def e21 (x0 : Int) : ByteArray := (⟨#[48, 49, 50, 51, 52, 53, 54, 55, 56, 57, 97, 98, 99, 100, 101, 102]⟩ : ByteArray).extract (((IntKind.u8.wrap (shrI .u64 x0 16)).tmod 16).toNat) ((((IntKind.u8.wrap (shrI .u64 x0 16)).tmod 16).toNat) + (((IntKind.u8.wrap (((IntKind.u8.wrap (shrI .u64 x0 16)).tmod 16) + 1)).toNat) - (((IntKind.u8.wrap (shrI .u64 x0 16)).tmod 16).toNat)))
def e22 (x0 : Int) : ByteArray := (⟨#[48, 49, 50, 51, 52, 53, 54, 55, 56, 57, 97, 98, 99, 100, 101, 102]⟩ : ByteArray).extract ((IntKind.u8.wrap ((IntKind.u8.wrap (shrI .u64 x0 8)).tdiv 16)).toNat) (((IntKind.u8.wrap ((IntKind.u8.wrap (shrI .u64 x0 8)).tdiv 16)).toNat) + (((IntKind.u8.wrap ((IntKind.u8.wrap ((IntKind.u8.wrap (shrI .u64 x0 8)).tdiv 16)) + 1)).toNat) - ((IntKind.u8.wrap ((IntKind.u8.wrap (shrI .u64 x0 8)).tdiv 16)).toNat)))
def e23 (x0 : Int) : ByteArray := (⟨#[48, 49, 50, 51, 52, 53, 54, 55, 56, 57, 97, 98, 99, 100, 101, 102]⟩ : ByteArray).extract (((IntKind.u8.wrap (shrI .u64 x0 8)).tmod 16).toNat) ((((IntKind.u8.wrap (shrI .u64 x0 8)).tmod 16).toNat) + (((IntKind.u8.wrap (((IntKind.u8.wrap (shrI .u64 x0 8)).tmod 16) + 1)).toNat) - (((IntKind.u8.wrap (shrI .u64 x0 8)).tmod 16).toNat)))
def e24 (x0 : Int) : ByteArray := (((e19 x0) ++ ((e20 x0) ++ (e21 x0))) ++ (⟨#[58]⟩ : ByteArray)) ++ ((e22 x0) ++ (e23 x0))
def e25 (x0 : Int) : ByteArray := (⟨#[48, 49, 50, 51, 52, 53, 54, 55, 56, 57, 97, 98, 99, 100, 101, 102]⟩ : ByteArray).extract ((IntKind.u8.wrap ((IntKind.u8.wrap x0).tdiv 16)).toNat) (((IntKind.u8.wrap ((IntKind.u8.wrap x0).tdiv 16)).toNat) + (((IntKind.u8.wrap ((IntKind.u8.wrap ((IntKind.u8.wrap x0).tdiv 16)) + 1)).toNat) - ((IntKind.u8.wrap ((IntKind.u8.wrap x0).tdiv 16)).toNat)))
def e26 (x0 : Int) : ByteArray := (⟨#[48, 49, 50, 51, 52, 53, 54, 55, 56, 57, 97, 98, 99, 100, 101, 102]⟩ : ByteArray).extract (((IntKind.u8.wrap x0).tmod 16).toNat) ((((IntKind.u8.wrap x0).tmod 16).toNat) + (((IntKind.u8.wrap (((IntKind.u8.wrap x0).tmod 16) + 1)).toNat) - (((IntKind.u8.wrap x0).tmod 16).toNat)))
/- weirgate/weirgateref09.Text -/
def ref09_Text_T {α : Type}  (a_1 : Int) (k0 : ByteArray → Option α) : Option α := bif !(decide (a_1 < 281474976710656)) then
  k0 (⟨#[]⟩ : ByteArray)
 else bif inb (IntKind.u8.wrap ((IntKind.u8.wrap ((IntKind.u8.wrap (shrI .u64 a_1 40)).tdiv 16)) + 1)) 17 then
  bif (decide (0 ≤ IntKind.u8.wrap ((IntKind.u8.wrap (shrI .u64 a_1 40)).tdiv 16)) && decide (IntKind.u8.wrap ((IntKind.u8.wrap (shrI .u64 a_1 40)).tdiv 16) ≤ IntKind.u8.wrap ((IntKind.u8.wrap ((IntKind.u8.wrap (shrI .u64 a_1 40)).tdiv 16)) + 1))) then
   bif inb (IntKind.u8.wrap (((IntKind.u8.wrap (shrI .u64 a_1 40)).tmod 16) + 1)) 17 then
    bif (decide (0 ≤ (IntKind.u8.wrap (shrI .u64 a_1 40)).tmod 16) && decide ((IntKind.u8.wrap (shrI .u64 a_1 40)).tmod 16 ≤ IntKind.u8.wrap (((IntKind.u8.wrap (shrI .u64 a_1 40)).tmod 16) + 1))) then
     bif Nat.ble ((e12 a_1).size + (e13 a_1).size) 4611686018427387904 then
      bif Nat.ble ((⟨#[]⟩ : ByteArray).size + ((e12 a_1) ++ (e13 a_1)).size) 4611686018427387904 then
       bif Nat.ble (((⟨#[]⟩ : ByteArray) ++ ((e12 a_1) ++ (e13 a_1))).size + (⟨#[58]⟩ : ByteArray).size) 4611686018427387904 then
        bif inb (IntKind.u8.wrap ((IntKind.u8.wrap ((IntKind.u8.wrap (shrI .u64 a_1 32)).tdiv 16)) + 1)) 17 then
         bif (decide (0 ≤ IntKind.u8.wrap ((IntKind.u8.wrap (shrI .u64 a_1 32)).tdiv 16)) && decide (IntKind.u8.wrap ((IntKind.u8.wrap (shrI .u64 a_1 32)).tdiv 16) ≤ IntKind.u8.wrap ((IntKind.u8.wrap ((IntKind.u8.wrap (shrI .u64 a_1 32)).tdiv 16)) + 1))) then
          bif inb (IntKind.u8.wrap (((IntKind.u8.wrap (shrI .u64 a_1 32)).tmod 16) + 1)) 17 then
           bif (decide (0 ≤ (IntKind.u8.wrap (shrI .u64 a_1 32)).tmod 16) && decide ((IntKind.u8.wrap (shrI .u64 a_1 32)).tmod 16 ≤ IntKind.u8.wrap (((IntKind.u8.wrap (shrI .u64 a_1 32)).tmod 16) + 1))) then
            bif Nat.ble ((e14 a_1).size + (e15 a_1).size) 4611686018427387904 then
             bif Nat.ble ((((⟨#[]⟩ : ByteArray) ++ ((e12 a_1) ++ (e13 a_1))) ++ (⟨#[58]⟩ : ByteArray)).size + ((e14 a_1) ++ (e15 a_1)).size) 4611686018427387904 then
              bif Nat.ble ((e16 a_1).size + (⟨#[58]⟩ : ByteArray).size) 4611686018427387904 then
               bif inb (IntKind.u8.wrap ((IntKind.u8.wrap ((IntKind.u8.wrap (shrI .u64 a_1 24)).tdiv 16)) + 1)) 17 then
                bif (decide (0 ≤ IntKind.u8.wrap ((IntKind.u8.wrap (shrI .u64 a_1 24)).tdiv 16)) && decide (IntKind.u8.wrap ((IntKind.u8.wrap (shrI .u64 a_1 24)).tdiv 16) ≤ IntKind.u8.wrap ((IntKind.u8.wrap ((IntKind.u8.wrap (shrI .u64 a_1 24)).tdiv 16)) + 1))) then
                 bif inb (IntKind.u8.wrap (((IntKind.u8.wrap (shrI .u64 a_1 24)).tmod 16) + 1)) 17 then
                  bif (decide (0 ≤ (IntKind.u8.wrap (shrI .u64 a_1 24)).tmod 16) && decide ((IntKind.u8.wrap (shrI .u64 a_1 24)).tmod 16 ≤ IntKind.u8.wrap (((IntKind.u8.wrap (shrI .u64 a_1 24)).tmod 16) + 1))) then
                   bif Nat.ble ((e17 a_1).size + (e18 a_1).size) 4611686018427387904 then
                    bif Nat.ble (((e16 a_1) ++ (⟨#[58]⟩ : ByteArray)).size + ((e17 a_1) ++ (e18 a_1)).size) 4611686018427387904 then
                     bif Nat.ble ((((e16 a_1) ++ (⟨#[58]⟩ : ByteArray)) ++ ((e17 a_1) ++ (e18 a_1))).size + (⟨#[58]⟩ : ByteArray).size) 4611686018427387904 then
                      bif inb (IntKind.u8.wrap ((IntKind.u8.wrap ((IntKind.u8.wrap (shrI .u64 a_1 16)).tdiv 16)) + 1)) 17 then
                       bif (decide (0 ≤ IntKind.u8.wrap ((IntKind.u8.wrap (shrI .u64 a_1 16)).tdiv 16)) && decide (IntKind.u8.wrap ((IntKind.u8.wrap (shrI .u64 a_1 16)).tdiv 16) ≤ IntKind.u8.wrap ((IntKind.u8.wrap ((IntKind.u8.wrap (shrI .u64 a_1 16)).tdiv 16)) + 1))) then
                        bif inb (IntKind.u8.wrap (((IntKind.u8.wrap (shrI .u64 a_1 16)).tmod 16) + 1)) 17 then
                         bif (decide (0 ≤ (IntKind.u8.wrap (shrI .u64 a_1 16)).tmod 16) && decide ((IntKind.u8.wrap (shrI .u64 a_1 16)).tmod 16 ≤ IntKind.u8.wrap (((IntKind.u8.wrap (shrI .u64 a_1 16)).tmod 16) + 1))) then
                          bif Nat.ble ((e20 a_1).size + (e21 a_1).size) 4611686018427387904 then
                           bif Nat.ble ((e19 a_1).size + ((e20 a_1) ++ (e21 a_1)).size) 4611686018427387904 then
                            bif Nat.ble (((e19 a_1) ++ ((e20 a_1) ++ (e21 a_1))).size + (⟨#[58]⟩ : ByteArray).size) 4611686018427387904 then
                             bif inb (IntKind.u8.wrap ((IntKind.u8.wrap ((IntKind.u8.wrap (shrI .u64 a_1 8)).tdiv 16)) + 1)) 17 then
                              bif (decide (0 ≤ IntKind.u8.wrap ((IntKind.u8.wrap (shrI .u64 a_1 8)).tdiv 16)) && decide (IntKind.u8.wrap ((IntKind.u8.wrap (shrI .u64 a_1 8)).tdiv 16) ≤ IntKind.u8.wrap ((IntKind.u8.wrap ((IntKind.u8.wrap (shrI .u64 a_1 8)).tdiv 16)) + 1))) then
                               bif inb (IntKind.u8.wrap (((IntKind.u8.wrap (shrI .u64 a_1 8)).tmod 16) + 1)) 17 then
                                bif (decide (0 ≤ (IntKind.u8.wrap (shrI .u64 a_1 8)).tmod 16) && decide ((IntKind.u8.wrap (shrI .u64 a_1 8)).tmod 16 ≤ IntKind.u8.wrap (((IntKind.u8.wrap (shrI .u64 a_1 8)).tmod 16) + 1))) then
                                 bif Nat.ble ((e22 a_1).size + (e23 a_1).size) 4611686018427387904 then
                                  bif Nat.ble ((((e19 a_1) ++ ((e20 a_1) ++ (e21 a_1))) ++ (⟨#[58]⟩ : ByteArray)).size + ((e22 a_1) ++ (e23 a_1)).size) 4611686018427387904 then
                                   bif Nat.ble ((e24 a_1).size + (⟨#[58]⟩ : ByteArray).size) 4611686018427387904 then
                                    bif inb (IntKind.u8.wrap ((IntKind.u8.wrap ((IntKind.u8.wrap a_1).tdiv 16)) + 1)) 17 then
                                     bif (decide (0 ≤ IntKind.u8.wrap ((IntKind.u8.wrap a_1).tdiv 16)) && decide (IntKind.u8.wrap ((IntKind.u8.wrap a_1).tdiv 16) ≤ IntKind.u8.wrap ((IntKind.u8.wrap ((IntKind.u8.wrap a_1).tdiv 16)) + 1))) then
                                      bif inb (IntKind.u8.wrap (((IntKind.u8.wrap a_1).tmod 16) + 1)) 17 then
                                       bif (decide (0 ≤ (IntKind.u8.wrap a_1).tmod 16) && decide ((IntKind.u8.wrap a_1).tmod 16 ≤ IntKind.u8.wrap (((IntKind.u8.wrap a_1).tmod 16) + 1))) then
                                        bif Nat.ble ((e25 a_1).size + (e26 a_1).size) 4611686018427387904 then
                                         bif Nat.ble (((e24 a_1) ++ (⟨#[58]⟩ : ByteArray)).size + ((e25 a_1) ++ (e26 a_1)).size) 4611686018427387904 then
                                          k0 (((e24 a_1) ++ (⟨#[58]⟩ : ByteArray)) ++ ((e25 a_1) ++ (e26 a_1)))
                                         else none /- test -/
                                        else none /- test -/
                                       else none /- test -/
                                      else none /- test -/
                                     else none /- test -/
                                    else none /- test -/
                                   else none /- test -/
                                  else none /- test -/
                                 else none /- test -/
                                else none /- test -/
                               else none /- test -/
                              else none /- test -/
                             else none /- test -/
                            else none /- test -/
                           else none /- test -/
                          else none /- test -/
                         else none /- test -/
                        else none /- test -/
                       else none /- test -/
                      else none /- test -/
                     else none /- test -/
                    else none /- test -/
                   else none /- test -/
                  else none /- test -/
                 else none /- test -/
                else none /- test -/
               else none /- test -/
              else none /- test -/
             else none /- test -/
            else none /- test -/
           else none /- test -/
          else none /- test -/
         else none /- test -/
        else none /- test -/
       else none /- test -/
      else none /- test -/
     else none /- test -/
    else none /- test -/
   else none /- test -/
  else none /- test -/
 else none /- test -/
def ref09_Text {α : Type} (a_1 : Int) (k0 : ByteArray → Option α) : Option α := ref09_Text_T  a_1 k0
def ref09_Text_S  : List (Nat × Sm) := [(7, yes), (24, idxSm), (25, joinSm), (26, splitSm)]
def ref09_Text_B  : Hooks := []
theorem ref09_Text_eq  (a_1 : Int) (k : FK) : runS tt (has eql) Tryd.prog.funcs 1152921504606846976 (ref09_Text_S ) (ref09_Text_B ) opts 40 22 [.v (.c (.pv (.val (.int .u64 a_1))))] [] k = ref09_Text_T  a_1 (fun r0 => k (.v (.c (.pv (.val (.string r0))))) []) := by kernel_rfl
def ref09_Text_p : PAr := ⟨[.v (.c (.pv (.int .u64 .h)))], []⟩
def ref09_Text_F (h : List Hole) (k : FK) : Option Out := ref09_Text (gI h 0) (fun r0 => k (.v (.c (.pv (.val (.string r0))))) [])
theorem ref09_Text_at (h : List Hole) : CallAt Tryd.prog 22 (arFill ref09_Text_p h).1 (arFill ref09_Text_p h).2 (ref09_Text_F h) := by
  have e : arFill ref09_Text_p h = ([.v (.c (.pv (.val (.int .u64 (gI h 0)))))], []) := by kernel_rfl
  rw [e]; exact callAt_of (runS_ok ttOk eqOk mixed (names_ok namesOk) (S := ref09_Text_S ) (sums_cons yes7_ok (sums_cons idx_ok (sums_cons join_ok (sums_cons split_ok (sums_nil))))) (B := ref09_Text_B ) (hooks_nil) opts 40) fun k => ref09_Text_eq  _ k
/- weirgate/weirgateref09.Parse -/
def ref09_Parse_T {α : Type} (Gref09_Parse_L0 : ByteArray → (Option α) → (ByteArray → Int → Option α) → Option α) (Gref09_Text : Int → (ByteArray → Option α) → Option α) (a_1 : ByteArray) (k0 : Int → Int → Option α) : Option α := bif ((a_1.size : Int) != 17) then
  k0 0 11
 else Gref09_Parse_L0 a_1
  (k0 0 11)
  (fun r_2 r_3 => Gref09_Text r_3
   (fun r_4 => bif !(r_4.toList == r_2.toList) then
    k0 0 11
   else k0 r_3 0))
def ref09_Parse {α : Type} (a_1 : ByteArray) (k0 : Int → Int → Option α) : Option α := ref09_Parse_T ref09_Parse_L0 ref09_Text a_1 k0
def ref09_Parse_S (Gref09_Parse_L0 : ByteArray → (Option Out) → (ByteArray → Int → Option Out) → Option Out) (Gref09_Text : Int → (ByteArray → Option Out) → Option Out) : List (Nat × Sm) := [(7, yes), (24, idxSm), (25, joinSm), (26, splitSm), (22, smOf [(ref09_Text_p, fun h k => Gref09_Text (gI h 0) (fun r0 => k (.v (.c (.pv (.val (.string r0))))) []))])]
def ref09_Parse_B (Gref09_Parse_L0 : ByteArray → (Option Out) → (ByteArray → Int → Option Out) → Option Out) (Gref09_Text : Int → (ByteArray → Option Out) → Option Out) : Hooks := [(12, [(0, hookG [0, 4, 5] [] (bkOf [(ref09_Parse_L0_p, fun h k => Gref09_Parse_L0 (gS h 0) (k .ret (ref09_Parse_L0_x0)) (fun r0 r1 => k .normal (ref09_Parse_L0_x1 r0 r1)))]))])]
theorem ref09_Parse_eq (Gref09_Parse_L0 : ByteArray → (Option Out) → (ByteArray → Int → Option Out) → Option Out) (Gref09_Text : Int → (ByteArray → Option Out) → Option Out) (a_1 : ByteArray) (k : FK) : runS tt (has eql) Tryd.prog.funcs 1152921504606846976 (ref09_Parse_S Gref09_Parse_L0 Gref09_Text) (ref09_Parse_B Gref09_Parse_L0 Gref09_Text) opts 40 12 [.v (.c (.pv (.val (.string a_1))))] [] k = ref09_Parse_T Gref09_Parse_L0 Gref09_Text a_1 (fun r0 r1 => k (.tup [.c (.pv (.val (.int .u64 r0))), .c (.pv (.val (.int .i64 r1)))]) []) := by kernel_rfl
def ref09_Parse_p : PAr := ⟨[.v (.c (.pv (.str)))], []⟩
def ref09_Parse_F (h : List Hole) (k : FK) : Option Out := ref09_Parse (gS h 0) (fun r0 r1 => k (.tup [.c (.pv (.val (.int .u64 r0))), .c (.pv (.val (.int .i64 r1)))]) [])
theorem ref09_Parse_at (h : List Hole) : CallAt Tryd.prog 12 (arFill ref09_Parse_p h).1 (arFill ref09_Parse_p h).2 (ref09_Parse_F h) := by
  have e : arFill ref09_Parse_p h = ([.v (.c (.pv (.val (.string (gS h 0)))))], []) := by kernel_rfl
  rw [e]; exact callAt_of (runS_ok ttOk eqOk mixed (names_ok namesOk) (S := ref09_Parse_S ref09_Parse_L0 ref09_Text) (sums_cons yes7_ok (sums_cons idx_ok (sums_cons join_ok (sums_cons split_ok (sums_cons (smOf_ok (alts_cons ref09_Text_at alts_nil)) (sums_nil)))))) (B := ref09_Parse_B ref09_Parse_L0 ref09_Text) (hooks_add (fn := Tryd.f12) (by kernel_rfl) (by kernel_rfl) (blk_cons (bkOf_ok (blts_cons ref09_Parse_L0_at blts_nil)) blk_nil) (hooks_nil)) opts 40) fun k => ref09_Parse_eq ref09_Parse_L0 ref09_Text _ k
/- weirgate/mac.Group -/
def mac_Group_T {α : Type}  (a_1 : Int) (k0 : Bool → Option α) : Option α := bif ((shrI .u64 a_1 48) == 0) then
  k0 ((bits .and .u64 (shrI .u64 a_1 40) 1) == 1)
 else k0 false
def mac_Group {α : Type} (a_1 : Int) (k0 : Bool → Option α) : Option α := mac_Group_T  a_1 k0
def mac_Group_S  : List (Nat × Sm) := [(7, yes), (24, idxSm), (25, joinSm), (26, splitSm)]
def mac_Group_B  : Hooks := []
theorem mac_Group_eq  (a_1 : Int) (k : FK) : runS tt (has eql) Tryd.prog.funcs 1152921504606846976 (mac_Group_S ) (mac_Group_B ) opts 40 15 [.v (.c (.pv (.val (.int .u64 a_1))))] [] k = mac_Group_T  a_1 (fun r0 => k (.v (.c (.pv (.val (.bool r0))))) []) := by kernel_rfl
def mac_Group_p : PAr := ⟨[.v (.c (.pv (.int .u64 .h)))], []⟩
def mac_Group_F (h : List Hole) (k : FK) : Option Out := mac_Group (gI h 0) (fun r0 => k (.v (.c (.pv (.val (.bool r0))))) [])
theorem mac_Group_at (h : List Hole) : CallAt Tryd.prog 15 (arFill mac_Group_p h).1 (arFill mac_Group_p h).2 (mac_Group_F h) := by
  have e : arFill mac_Group_p h = ([.v (.c (.pv (.val (.int .u64 (gI h 0)))))], []) := by kernel_rfl
  rw [e]; exact callAt_of (runS_ok ttOk eqOk mixed (names_ok namesOk) (S := mac_Group_S ) (sums_cons yes7_ok (sums_cons idx_ok (sums_cons join_ok (sums_cons split_ok (sums_nil))))) (B := mac_Group_B ) (hooks_nil) opts 40) fun k => mac_Group_eq  _ k
/- weirgate/weirgateref09.Group -/
def ref09_Group_T {α : Type}  (a_1 : Int) (k0 : Bool → Option α) : Option α := bif decide (a_1 < 281474976710656) then
  k0 ((bits .and .u64 (shrI .u64 a_1 40) 1) == 1)
 else k0 false
def ref09_Group {α : Type} (a_1 : Int) (k0 : Bool → Option α) : Option α := ref09_Group_T  a_1 k0
def ref09_Group_S  : List (Nat × Sm) := [(7, yes), (24, idxSm), (25, joinSm), (26, splitSm)]
def ref09_Group_B  : Hooks := []
theorem ref09_Group_eq  (a_1 : Int) (k : FK) : runS tt (has eql) Tryd.prog.funcs 1152921504606846976 (ref09_Group_S ) (ref09_Group_B ) opts 40 16 [.v (.c (.pv (.val (.int .u64 a_1))))] [] k = ref09_Group_T  a_1 (fun r0 => k (.v (.c (.pv (.val (.bool r0))))) []) := by kernel_rfl
def ref09_Group_p : PAr := ⟨[.v (.c (.pv (.int .u64 .h)))], []⟩
def ref09_Group_F (h : List Hole) (k : FK) : Option Out := ref09_Group (gI h 0) (fun r0 => k (.v (.c (.pv (.val (.bool r0))))) [])
theorem ref09_Group_at (h : List Hole) : CallAt Tryd.prog 16 (arFill ref09_Group_p h).1 (arFill ref09_Group_p h).2 (ref09_Group_F h) := by
  have e : arFill ref09_Group_p h = ([.v (.c (.pv (.val (.int .u64 (gI h 0)))))], []) := by kernel_rfl
  rw [e]; exact callAt_of (runS_ok ttOk eqOk mixed (names_ok namesOk) (S := ref09_Group_S ) (sums_cons yes7_ok (sums_cons idx_ok (sums_cons join_ok (sums_cons split_ok (sums_nil))))) (B := ref09_Group_B ) (hooks_nil) opts 40) fun k => ref09_Group_eq  _ k
/- weirgate/weirgateref09.Kept -/
def ref09_Kept_T {α : Type}  (a_1 : Int) (k0 : Bool → Option α) : Option α := bif decide (a_1 ≥ 1652522221568) then
  k0 (decide (a_1 ≤ 1652522221583))
 else k0 false
def ref09_Kept {α : Type} (a_1 : Int) (k0 : Bool → Option α) : Option α := ref09_Kept_T  a_1 k0
def ref09_Kept_S  : List (Nat × Sm) := [(7, yes), (24, idxSm), (25, joinSm), (26, splitSm)]
def ref09_Kept_B  : Hooks := []
theorem ref09_Kept_eq  (a_1 : Int) (k : FK) : runS tt (has eql) Tryd.prog.funcs 1152921504606846976 (ref09_Kept_S ) (ref09_Kept_B ) opts 40 18 [.v (.c (.pv (.val (.int .u64 a_1))))] [] k = ref09_Kept_T  a_1 (fun r0 => k (.v (.c (.pv (.val (.bool r0))))) []) := by kernel_rfl
def ref09_Kept_p : PAr := ⟨[.v (.c (.pv (.int .u64 .h)))], []⟩
def ref09_Kept_F (h : List Hole) (k : FK) : Option Out := ref09_Kept (gI h 0) (fun r0 => k (.v (.c (.pv (.val (.bool r0))))) [])
theorem ref09_Kept_at (h : List Hole) : CallAt Tryd.prog 18 (arFill ref09_Kept_p h).1 (arFill ref09_Kept_p h).2 (ref09_Kept_F h) := by
  have e : arFill ref09_Kept_p h = ([.v (.c (.pv (.val (.int .u64 (gI h 0)))))], []) := by kernel_rfl
  rw [e]; exact callAt_of (runS_ok ttOk eqOk mixed (names_ok namesOk) (S := ref09_Kept_S ) (sums_cons yes7_ok (sums_cons idx_ok (sums_cons join_ok (sums_cons split_ok (sums_nil))))) (B := ref09_Kept_B ) (hooks_nil) opts 40) fun k => ref09_Kept_eq  _ k
def e27 (x0 : Int) (x1 : Int) (x2 : Int) (x3 : Int) (x4 : Int) (x5 : Int) : ByteArray := strOf 6 (fun j c => pvAt [.pv (.val (.int .u8 x0)), .pv (.val (.int .u8 x1)), .pv (.val (.int .u8 x2)), .pv (.val (.int .u8 x3)), .pv (.val (.int .u8 x4)), .pv (.val (.int .u8 x5))] (0 + j + c))
def e28 (x0 : Int) : ByteArray := strOf 6 (fun j c => pvAt [.pv (.val (.int .u8 (IntKind.u8.wrap (shrI .u64 x0 40)))), .pv (.val (.int .u8 (IntKind.u8.wrap (shrI .u64 x0 32)))), .pv (.val (.int .u8 (IntKind.u8.wrap (shrI .u64 x0 24)))), .pv (.val (.int .u8 (IntKind.u8.wrap (shrI .u64 x0 16)))), .pv (.val (.int .u8 (IntKind.u8.wrap (shrI .u64 x0 8)))), .pv (.val (.int .u8 (IntKind.u8.wrap (shrI .u64 x0 0))))] (0 + j + c))
def e29 (x0 : Int) : ByteArray := (⟨#[48, 49, 50, 51, 52, 53, 54, 55, 56, 57, 97, 98, 99, 100, 101, 102]⟩ : ByteArray).extract ((shrI .u8 (IntKind.u8.wrap (shrI .u64 x0 40)) 4).toNat) (((shrI .u8 (IntKind.u8.wrap (shrI .u64 x0 40)) 4).toNat) + (((IntKind.u8.wrap ((shrI .u8 (IntKind.u8.wrap (shrI .u64 x0 40)) 4) + 1)).toNat) - ((shrI .u8 (IntKind.u8.wrap (shrI .u64 x0 40)) 4).toNat)))
def e30 (x0 : Int) : ByteArray := (⟨#[48, 49, 50, 51, 52, 53, 54, 55, 56, 57, 97, 98, 99, 100, 101, 102]⟩ : ByteArray).extract ((bits .and .u8 (IntKind.u8.wrap (shrI .u64 x0 40)) 15).toNat) (((bits .and .u8 (IntKind.u8.wrap (shrI .u64 x0 40)) 15).toNat) + (((IntKind.u8.wrap ((bits .and .u8 (IntKind.u8.wrap (shrI .u64 x0 40)) 15) + 1)).toNat) - ((bits .and .u8 (IntKind.u8.wrap (shrI .u64 x0 40)) 15).toNat)))
def e31 (x0 : Int) : ByteArray := (⟨#[48, 49, 50, 51, 52, 53, 54, 55, 56, 57, 97, 98, 99, 100, 101, 102]⟩ : ByteArray).extract ((shrI .u8 (IntKind.u8.wrap (shrI .u64 x0 32)) 4).toNat) (((shrI .u8 (IntKind.u8.wrap (shrI .u64 x0 32)) 4).toNat) + (((IntKind.u8.wrap ((shrI .u8 (IntKind.u8.wrap (shrI .u64 x0 32)) 4) + 1)).toNat) - ((shrI .u8 (IntKind.u8.wrap (shrI .u64 x0 32)) 4).toNat)))
def e32 (x0 : Int) : ByteArray := (⟨#[48, 49, 50, 51, 52, 53, 54, 55, 56, 57, 97, 98, 99, 100, 101, 102]⟩ : ByteArray).extract ((bits .and .u8 (IntKind.u8.wrap (shrI .u64 x0 32)) 15).toNat) (((bits .and .u8 (IntKind.u8.wrap (shrI .u64 x0 32)) 15).toNat) + (((IntKind.u8.wrap ((bits .and .u8 (IntKind.u8.wrap (shrI .u64 x0 32)) 15) + 1)).toNat) - ((bits .and .u8 (IntKind.u8.wrap (shrI .u64 x0 32)) 15).toNat)))
def e33 (x0 : Int) : Nat → Nat → PV := catf 1 (rowOf 1 [.val (.string ((e29 x0) ++ (e30 x0)))]) (rowOf 1 [.val (.string ((e31 x0) ++ (e32 x0)))])
def e34 (x0 : Int) : ByteArray := (⟨#[48, 49, 50, 51, 52, 53, 54, 55, 56, 57, 97, 98, 99, 100, 101, 102]⟩ : ByteArray).extract ((shrI .u8 (IntKind.u8.wrap (shrI .u64 x0 24)) 4).toNat) (((shrI .u8 (IntKind.u8.wrap (shrI .u64 x0 24)) 4).toNat) + (((IntKind.u8.wrap ((shrI .u8 (IntKind.u8.wrap (shrI .u64 x0 24)) 4) + 1)).toNat) - ((shrI .u8 (IntKind.u8.wrap (shrI .u64 x0 24)) 4).toNat)))
def e35 (x0 : Int) : ByteArray := (⟨#[48, 49, 50, 51, 52, 53, 54, 55, 56, 57, 97, 98, 99, 100, 101, 102]⟩ : ByteArray).extract ((bits .and .u8 (IntKind.u8.wrap (shrI .u64 x0 24)) 15).toNat) (((bits .and .u8 (IntKind.u8.wrap (shrI .u64 x0 24)) 15).toNat) + (((IntKind.u8.wrap ((bits .and .u8 (IntKind.u8.wrap (shrI .u64 x0 24)) 15) + 1)).toNat) - ((bits .and .u8 (IntKind.u8.wrap (shrI .u64 x0 24)) 15).toNat)))
def e36 (x0 : Int) : ByteArray := (⟨#[48, 49, 50, 51, 52, 53, 54, 55, 56, 57, 97, 98, 99, 100, 101, 102]⟩ : ByteArray).extract ((shrI .u8 (IntKind.u8.wrap (shrI .u64 x0 16)) 4).toNat) (((shrI .u8 (IntKind.u8.wrap (shrI .u64 x0 16)) 4).toNat) + (((IntKind.u8.wrap ((shrI .u8 (IntKind.u8.wrap (shrI .u64 x0 16)) 4) + 1)).toNat) - ((shrI .u8 (IntKind.u8.wrap (shrI .u64 x0 16)) 4).toNat)))
def e37 (x0 : Int) : ByteArray := (⟨#[48, 49, 50, 51, 52, 53, 54, 55, 56, 57, 97, 98, 99, 100, 101, 102]⟩ : ByteArray).extract ((bits .and .u8 (IntKind.u8.wrap (shrI .u64 x0 16)) 15).toNat) (((bits .and .u8 (IntKind.u8.wrap (shrI .u64 x0 16)) 15).toNat) + (((IntKind.u8.wrap ((bits .and .u8 (IntKind.u8.wrap (shrI .u64 x0 16)) 15) + 1)).toNat) - ((bits .and .u8 (IntKind.u8.wrap (shrI .u64 x0 16)) 15).toNat)))
def e38 (x0 : Int) : Nat → Nat → PV := catf 3 (catf 2 (e33 x0) (rowOf 1 [.val (.string ((e34 x0) ++ (e35 x0)))])) (rowOf 1 [.val (.string ((e36 x0) ++ (e37 x0)))])
def e39 (x0 : Int) : ByteArray := (⟨#[48, 49, 50, 51, 52, 53, 54, 55, 56, 57, 97, 98, 99, 100, 101, 102]⟩ : ByteArray).extract ((shrI .u8 (IntKind.u8.wrap (shrI .u64 x0 8)) 4).toNat) (((shrI .u8 (IntKind.u8.wrap (shrI .u64 x0 8)) 4).toNat) + (((IntKind.u8.wrap ((shrI .u8 (IntKind.u8.wrap (shrI .u64 x0 8)) 4) + 1)).toNat) - ((shrI .u8 (IntKind.u8.wrap (shrI .u64 x0 8)) 4).toNat)))
def e40 (x0 : Int) : ByteArray := (⟨#[48, 49, 50, 51, 52, 53, 54, 55, 56, 57, 97, 98, 99, 100, 101, 102]⟩ : ByteArray).extract ((bits .and .u8 (IntKind.u8.wrap (shrI .u64 x0 8)) 15).toNat) (((bits .and .u8 (IntKind.u8.wrap (shrI .u64 x0 8)) 15).toNat) + (((IntKind.u8.wrap ((bits .and .u8 (IntKind.u8.wrap (shrI .u64 x0 8)) 15) + 1)).toNat) - ((bits .and .u8 (IntKind.u8.wrap (shrI .u64 x0 8)) 15).toNat)))
def e41 (x0 : Int) : ByteArray := (⟨#[48, 49, 50, 51, 52, 53, 54, 55, 56, 57, 97, 98, 99, 100, 101, 102]⟩ : ByteArray).extract ((shrI .u8 (IntKind.u8.wrap (shrI .u64 x0 0)) 4).toNat) (((shrI .u8 (IntKind.u8.wrap (shrI .u64 x0 0)) 4).toNat) + (((IntKind.u8.wrap ((shrI .u8 (IntKind.u8.wrap (shrI .u64 x0 0)) 4) + 1)).toNat) - ((shrI .u8 (IntKind.u8.wrap (shrI .u64 x0 0)) 4).toNat)))
def e42 (x0 : Int) : ByteArray := (⟨#[48, 49, 50, 51, 52, 53, 54, 55, 56, 57, 97, 98, 99, 100, 101, 102]⟩ : ByteArray).extract ((bits .and .u8 (IntKind.u8.wrap (shrI .u64 x0 0)) 15).toNat) (((bits .and .u8 (IntKind.u8.wrap (shrI .u64 x0 0)) 15).toNat) + (((IntKind.u8.wrap ((bits .and .u8 (IntKind.u8.wrap (shrI .u64 x0 0)) 15) + 1)).toNat) - ((bits .and .u8 (IntKind.u8.wrap (shrI .u64 x0 0)) 15).toNat)))
def e43 (x0 : Int) : Nat → Nat → PV := catf 5 (catf 4 (e38 x0) (rowOf 1 [.val (.string ((e39 x0) ++ (e40 x0)))])) (rowOf 1 [.val (.string ((e41 x0) ++ (e42 x0)))])
/- weirgate/mac.Text -/
def mac_Text_T {α : Type}  (a_1 : Int) (k0 : ByteArray → Option α) : Option α := bif !((shrI .u64 a_1 48) == 0) then
  k0 (⟨#[]⟩ : ByteArray)
 else bif inb (IntKind.u8.wrap ((shrI .u8 (IntKind.u8.wrap (shrI .u64 a_1 40)) 4) + 1)) 17 then
  bif (decide (0 ≤ shrI .u8 (IntKind.u8.wrap (shrI .u64 a_1 40)) 4) && decide (shrI .u8 (IntKind.u8.wrap (shrI .u64 a_1 40)) 4 ≤ IntKind.u8.wrap ((shrI .u8 (IntKind.u8.wrap (shrI .u64 a_1 40)) 4) + 1))) then
   bif inb (IntKind.u8.wrap ((bits .and .u8 (IntKind.u8.wrap (shrI .u64 a_1 40)) 15) + 1)) 17 then
    bif (decide (0 ≤ bits .and .u8 (IntKind.u8.wrap (shrI .u64 a_1 40)) 15) && decide (bits .and .u8 (IntKind.u8.wrap (shrI .u64 a_1 40)) 15 ≤ IntKind.u8.wrap ((bits .and .u8 (IntKind.u8.wrap (shrI .u64 a_1 40)) 15) + 1))) then
     bif Nat.ble ((e29 a_1).size + (e30 a_1).size) 4611686018427387904 then
      bif inb (IntKind.u8.wrap ((shrI .u8 (IntKind.u8.wrap (shrI .u64 a_1 32)) 4) + 1)) 17 then
       bif (decide (0 ≤ shrI .u8 (IntKind.u8.wrap (shrI .u64 a_1 32)) 4) && decide (shrI .u8 (IntKind.u8.wrap (shrI .u64 a_1 32)) 4 ≤ IntKind.u8.wrap ((shrI .u8 (IntKind.u8.wrap (shrI .u64 a_1 32)) 4) + 1))) then
        bif inb (IntKind.u8.wrap ((bits .and .u8 (IntKind.u8.wrap (shrI .u64 a_1 32)) 15) + 1)) 17 then
         bif (decide (0 ≤ bits .and .u8 (IntKind.u8.wrap (shrI .u64 a_1 32)) 15) && decide (bits .and .u8 (IntKind.u8.wrap (shrI .u64 a_1 32)) 15 ≤ IntKind.u8.wrap ((bits .and .u8 (IntKind.u8.wrap (shrI .u64 a_1 32)) 15) + 1))) then
          bif Nat.ble ((e31 a_1).size + (e32 a_1).size) 4611686018427387904 then
           bif inb (IntKind.u8.wrap ((shrI .u8 (IntKind.u8.wrap (shrI .u64 a_1 24)) 4) + 1)) 17 then
            bif (decide (0 ≤ shrI .u8 (IntKind.u8.wrap (shrI .u64 a_1 24)) 4) && decide (shrI .u8 (IntKind.u8.wrap (shrI .u64 a_1 24)) 4 ≤ IntKind.u8.wrap ((shrI .u8 (IntKind.u8.wrap (shrI .u64 a_1 24)) 4) + 1))) then
             bif inb (IntKind.u8.wrap ((bits .and .u8 (IntKind.u8.wrap (shrI .u64 a_1 24)) 15) + 1)) 17 then
              bif (decide (0 ≤ bits .and .u8 (IntKind.u8.wrap (shrI .u64 a_1 24)) 15) && decide (bits .and .u8 (IntKind.u8.wrap (shrI .u64 a_1 24)) 15 ≤ IntKind.u8.wrap ((bits .and .u8 (IntKind.u8.wrap (shrI .u64 a_1 24)) 15) + 1))) then
               bif Nat.ble ((e34 a_1).size + (e35 a_1).size) 4611686018427387904 then
                bif inb (IntKind.u8.wrap ((shrI .u8 (IntKind.u8.wrap (shrI .u64 a_1 16)) 4) + 1)) 17 then
                 bif (decide (0 ≤ shrI .u8 (IntKind.u8.wrap (shrI .u64 a_1 16)) 4) && decide (shrI .u8 (IntKind.u8.wrap (shrI .u64 a_1 16)) 4 ≤ IntKind.u8.wrap ((shrI .u8 (IntKind.u8.wrap (shrI .u64 a_1 16)) 4) + 1))) then
                  bif inb (IntKind.u8.wrap ((bits .and .u8 (IntKind.u8.wrap (shrI .u64 a_1 16)) 15) + 1)) 17 then
                   bif (decide (0 ≤ bits .and .u8 (IntKind.u8.wrap (shrI .u64 a_1 16)) 15) && decide (bits .and .u8 (IntKind.u8.wrap (shrI .u64 a_1 16)) 15 ≤ IntKind.u8.wrap ((bits .and .u8 (IntKind.u8.wrap (shrI .u64 a_1 16)) 15) + 1))) then
                    bif Nat.ble ((e36 a_1).size + (e37 a_1).size) 4611686018427387904 then
                     bif inb (IntKind.u8.wrap ((shrI .u8 (IntKind.u8.wrap (shrI .u64 a_1 8)) 4) + 1)) 17 then
                      bif (decide (0 ≤ shrI .u8 (IntKind.u8.wrap (shrI .u64 a_1 8)) 4) && decide (shrI .u8 (IntKind.u8.wrap (shrI .u64 a_1 8)) 4 ≤ IntKind.u8.wrap ((shrI .u8 (IntKind.u8.wrap (shrI .u64 a_1 8)) 4) + 1))) then
                       bif inb (IntKind.u8.wrap ((bits .and .u8 (IntKind.u8.wrap (shrI .u64 a_1 8)) 15) + 1)) 17 then
                        bif (decide (0 ≤ bits .and .u8 (IntKind.u8.wrap (shrI .u64 a_1 8)) 15) && decide (bits .and .u8 (IntKind.u8.wrap (shrI .u64 a_1 8)) 15 ≤ IntKind.u8.wrap ((bits .and .u8 (IntKind.u8.wrap (shrI .u64 a_1 8)) 15) + 1))) then
                         bif Nat.ble ((e39 a_1).size + (e40 a_1).size) 4611686018427387904 then
                          bif inb (IntKind.u8.wrap ((shrI .u8 (IntKind.u8.wrap (shrI .u64 a_1 0)) 4) + 1)) 17 then
                           bif (decide (0 ≤ shrI .u8 (IntKind.u8.wrap (shrI .u64 a_1 0)) 4) && decide (shrI .u8 (IntKind.u8.wrap (shrI .u64 a_1 0)) 4 ≤ IntKind.u8.wrap ((shrI .u8 (IntKind.u8.wrap (shrI .u64 a_1 0)) 4) + 1))) then
                            bif inb (IntKind.u8.wrap ((bits .and .u8 (IntKind.u8.wrap (shrI .u64 a_1 0)) 15) + 1)) 17 then
                             bif (decide (0 ≤ bits .and .u8 (IntKind.u8.wrap (shrI .u64 a_1 0)) 15) && decide (bits .and .u8 (IntKind.u8.wrap (shrI .u64 a_1 0)) 15 ≤ IntKind.u8.wrap ((bits .and .u8 (IntKind.u8.wrap (shrI .u64 a_1 0)) 15) + 1))) then
                              bif Nat.ble ((e41 a_1).size + (e42 a_1).size) 4611686018427387904 then
                               bif joinOk 6 (e43 a_1) (⟨#[58]⟩ : ByteArray) then
                                k0 (joinS 6 (e43 a_1) (⟨#[58]⟩ : ByteArray))
                               else none /- test -/
                              else none /- test -/
                             else none /- test -/
                            else none /- test -/
                           else none /- test -/
                          else none /- test -/
                         else none /- test -/
                        else none /- test -/
                       else none /- test -/
                      else none /- test -/
                     else none /- test -/
                    else none /- test -/
                   else none /- test -/
                  else none /- test -/
                 else none /- test -/
                else none /- test -/
               else none /- test -/
              else none /- test -/
             else none /- test -/
            else none /- test -/
           else none /- test -/
          else none /- test -/
         else none /- test -/
        else none /- test -/
       else none /- test -/
      else none /- test -/
     else none /- test -/
    else none /- test -/
   else none /- test -/
  else none /- test -/
 else none /- test -/
def mac_Text {α : Type} (a_1 : Int) (k0 : ByteArray → Option α) : Option α := mac_Text_T  a_1 k0
def mac_Text_S  : List (Nat × Sm) := [(7, yes), (24, idxSm), (25, joinSm), (26, splitSm)]
def mac_Text_B  : Hooks := []
theorem mac_Text_eq  (a_1 : Int) (k : FK) : runS tt (has eql) Tryd.prog.funcs 1152921504606846976 (mac_Text_S ) (mac_Text_B ) opts 40 21 [.v (.c (.pv (.val (.int .u64 a_1))))] [] k = mac_Text_T  a_1 (fun r0 => k (.v (.c (.pv (.val (.string r0))))) []) := by kernel_rfl
def mac_Text_p : PAr := ⟨[.v (.c (.pv (.int .u64 .h)))], []⟩
def mac_Text_F (h : List Hole) (k : FK) : Option Out := mac_Text (gI h 0) (fun r0 => k (.v (.c (.pv (.val (.string r0))))) [])
theorem mac_Text_at (h : List Hole) : CallAt Tryd.prog 21 (arFill mac_Text_p h).1 (arFill mac_Text_p h).2 (mac_Text_F h) := by
  have e : arFill mac_Text_p h = ([.v (.c (.pv (.val (.int .u64 (gI h 0)))))], []) := by kernel_rfl
  rw [e]; exact callAt_of (runS_ok ttOk eqOk mixed (names_ok namesOk) (S := mac_Text_S ) (sums_cons yes7_ok (sums_cons idx_ok (sums_cons join_ok (sums_cons split_ok (sums_nil))))) (B := mac_Text_B ) (hooks_nil) opts 40) fun k => mac_Text_eq  _ k
/- weirgate/weirgatelaw09.MacTells -/
def law09_MacTells_T {α : Type} (Gmac_Of : Bool → Nat → (Nat → Nat → PV) → (Int → Int → Option α) → Option α) (Gref09_Of : Bool → Nat → (Nat → Nat → PV) → (Int → Int → Option α) → Option α) (Gmac_Parse : ByteArray → (Int → Int → Option α) → Option α) (Gref09_Parse : ByteArray → (Int → Int → Option α) → Option α) (Gmac_Group : Int → (Bool → Option α) → Option α) (Gref09_Group : Int → (Bool → Option α) → Option α) (Gref09_Kept : Int → (Bool → Option α) → Option α) (Gmac_Text : Int → (ByteArray → Option α) → Option α) (Gref09_Text : Int → (ByteArray → Option α) → Option α) (a_1 : Int) (a_2 : Bool) (a_3 : Nat) (a_4 : Nat → Nat → PV) (a_5 : ByteArray) (k0 : Option α) (k1 : Option α) : Option α := bif decide ((a_3 : Int) > 100) then
  k0
 else bif decide ((a_5.size : Int) > 100) then
  k0
 else bif Nat.ble ((0 + a_3) * 1) bound then
  Gmac_Of false (0 + a_3) (catf 0 (rowOf 1 []) (a_4))
   (fun r_6 r_7 => Gref09_Of a_2 a_3 a_4
    (fun r_8 r_9 => Gmac_Parse a_5
     (fun r_10 r_11 => Gref09_Parse a_5
      (fun r_12 r_13 => bif (((shrI .u64 a_1 48) == 0) == (decide (a_1 < 281474976710656))) then
       Gmac_Group a_1
        (fun r_14 => Gref09_Group a_1
         (fun r_15 => bif (r_14 == r_15) then
          Gref09_Kept a_1
           (fun r_16 => bif (((bits .andNot .u64 a_1 15) == 1652522221568) == r_16) then
            bif ((e28 a_1).toList == (strOf 6 (e11 a_1)).toList) then
             Gmac_Text a_1
              (fun r_17 => Gref09_Text a_1
               (fun r_18 => bif (r_17.toList == r_18.toList) then
                bif (r_6 == r_8) then
                 bif (r_7 == r_9) then
                  bif (r_10 == r_12) then
                   bif (r_11 == r_13) then
                    k0
                   else k1
                  else k1
                 else k1
                else k1
               else k1))
            else k1
           else k1)
         else k1))
      else k1))))
 else none /- test -/
def law09_MacTells {α : Type} (a_1 : Int) (a_2 : Bool) (a_3 : Nat) (a_4 : Nat → Nat → PV) (a_5 : ByteArray) (k0 : Option α) (k1 : Option α) : Option α := law09_MacTells_T mac_Of ref09_Of mac_Parse ref09_Parse mac_Group ref09_Group ref09_Kept mac_Text ref09_Text a_1 a_2 a_3 a_4 a_5 k0 k1
def law09_MacTells_S (Gmac_Of : Bool → Nat → (Nat → Nat → PV) → (Int → Int → Option Out) → Option Out) (Gref09_Of : Bool → Nat → (Nat → Nat → PV) → (Int → Int → Option Out) → Option Out) (Gmac_Parse : ByteArray → (Int → Int → Option Out) → Option Out) (Gref09_Parse : ByteArray → (Int → Int → Option Out) → Option Out) (Gmac_Group : Int → (Bool → Option Out) → Option Out) (Gref09_Group : Int → (Bool → Option Out) → Option Out) (Gref09_Kept : Int → (Bool → Option Out) → Option Out) (Gmac_Text : Int → (ByteArray → Option Out) → Option Out) (Gref09_Text : Int → (ByteArray → Option Out) → Option Out) : List (Nat × Sm) := [(7, yes), (24, idxSm), (25, joinSm), (26, splitSm), (9, smOf [(mac_Of_p, fun h k => Gmac_Of (gB h 0) (gN h 1) (gF h 2) (fun r0 r1 => k (.tup [.c (.pv (.val (.int .u64 r0))), .c (.pv (.val (.int .i64 r1)))]) []))]), (10, smOf [(ref09_Of_p, fun h k => Gref09_Of (gB h 0) (gN h 1) (gF h 2) (fun r0 r1 => k (.tup [.c (.pv (.val (.int .u64 r0))), .c (.pv (.val (.int .i64 r1)))]) []))]), (11, smOf [(mac_Parse_p, fun h k => Gmac_Parse (gS h 0) (fun r0 r1 => k (.tup [.c (.pv (.val (.int .u64 r0))), .c (.pv (.val (.int .i64 r1)))]) []))]), (12, smOf [(ref09_Parse_p, fun h k => Gref09_Parse (gS h 0) (fun r0 r1 => k (.tup [.c (.pv (.val (.int .u64 r0))), .c (.pv (.val (.int .i64 r1)))]) []))]), (15, smOf [(mac_Group_p, fun h k => Gmac_Group (gI h 0) (fun r0 => k (.v (.c (.pv (.val (.bool r0))))) []))]), (16, smOf [(ref09_Group_p, fun h k => Gref09_Group (gI h 0) (fun r0 => k (.v (.c (.pv (.val (.bool r0))))) []))]), (18, smOf [(ref09_Kept_p, fun h k => Gref09_Kept (gI h 0) (fun r0 => k (.v (.c (.pv (.val (.bool r0))))) []))]), (21, smOf [(mac_Text_p, fun h k => Gmac_Text (gI h 0) (fun r0 => k (.v (.c (.pv (.val (.string r0))))) []))]), (22, smOf [(ref09_Text_p, fun h k => Gref09_Text (gI h 0) (fun r0 => k (.v (.c (.pv (.val (.string r0))))) []))])]
def law09_MacTells_B (Gmac_Of : Bool → Nat → (Nat → Nat → PV) → (Int → Int → Option Out) → Option Out) (Gref09_Of : Bool → Nat → (Nat → Nat → PV) → (Int → Int → Option Out) → Option Out) (Gmac_Parse : ByteArray → (Int → Int → Option Out) → Option Out) (Gref09_Parse : ByteArray → (Int → Int → Option Out) → Option Out) (Gmac_Group : Int → (Bool → Option Out) → Option Out) (Gref09_Group : Int → (Bool → Option Out) → Option Out) (Gref09_Kept : Int → (Bool → Option Out) → Option Out) (Gmac_Text : Int → (ByteArray → Option Out) → Option Out) (Gref09_Text : Int → (ByteArray → Option Out) → Option Out) : Hooks := []
theorem law09_MacTells_eq (Gmac_Of : Bool → Nat → (Nat → Nat → PV) → (Int → Int → Option Out) → Option Out) (Gref09_Of : Bool → Nat → (Nat → Nat → PV) → (Int → Int → Option Out) → Option Out) (Gmac_Parse : ByteArray → (Int → Int → Option Out) → Option Out) (Gref09_Parse : ByteArray → (Int → Int → Option Out) → Option Out) (Gmac_Group : Int → (Bool → Option Out) → Option Out) (Gref09_Group : Int → (Bool → Option Out) → Option Out) (Gref09_Kept : Int → (Bool → Option Out) → Option Out) (Gmac_Text : Int → (ByteArray → Option Out) → Option Out) (Gref09_Text : Int → (ByteArray → Option Out) → Option Out) (a_1 : Int) (a_2 : Bool) (a_3 : Nat) (a_4 : Nat → Nat → PV) (a_5 : ByteArray) (k : FK) : runS tt (has eql) Tryd.prog.funcs 1152921504606846976 (law09_MacTells_S Gmac_Of Gref09_Of Gmac_Parse Gref09_Parse Gmac_Group Gref09_Group Gref09_Kept Gmac_Text Gref09_Text) (law09_MacTells_B Gmac_Of Gref09_Of Gmac_Parse Gref09_Parse Gmac_Group Gref09_Group Gref09_Kept Gmac_Text Gref09_Text) opts 40 3 [.v (.c (.pv (.val (.int .u64 a_1)))), .v (.c (.pv (.sl a_2 (.int .u8 .nil) 1 a_3 (a_4)))), .v (.c (.pv (.val (.string a_5))))] [] k = law09_MacTells_T Gmac_Of Gref09_Of Gmac_Parse Gref09_Parse Gmac_Group Gref09_Group Gref09_Kept Gmac_Text Gref09_Text a_1 a_2 a_3 a_4 a_5 (k (.v (.c (.pv (.val (.bool true))))) []) (k (.v (.c (.pv (.val (.bool false))))) []) := by kernel_rfl
def law09_MacTells_p : PAr := ⟨[.v (.c (.pv (.int .u64 .h))), .v (.c (.pv (.sl .h (.int .u8 .nil) 1 .h))), .v (.c (.pv (.str)))], []⟩
def law09_MacTells_F (h : List Hole) (k : FK) : Option Out := law09_MacTells (gI h 0) (gB h 1) (gN h 2) (gF h 3) (gS h 4) (k (.v (.c (.pv (.val (.bool true))))) []) (k (.v (.c (.pv (.val (.bool false))))) [])
theorem law09_MacTells_at (h : List Hole) : CallAt Tryd.prog 3 (arFill law09_MacTells_p h).1 (arFill law09_MacTells_p h).2 (law09_MacTells_F h) := by
  have e : arFill law09_MacTells_p h = ([.v (.c (.pv (.val (.int .u64 (gI h 0))))), .v (.c (.pv (.sl (gB h 1) (.int .u8 .nil) 1 (gN h 2) ((gF h 3))))), .v (.c (.pv (.val (.string (gS h 4)))))], []) := by kernel_rfl
  rw [e]; exact callAt_of (runS_ok ttOk eqOk mixed (names_ok namesOk) (S := law09_MacTells_S mac_Of ref09_Of mac_Parse ref09_Parse mac_Group ref09_Group ref09_Kept mac_Text ref09_Text) (sums_cons yes7_ok (sums_cons idx_ok (sums_cons join_ok (sums_cons split_ok (sums_cons (smOf_ok (alts_cons mac_Of_at alts_nil)) (sums_cons (smOf_ok (alts_cons ref09_Of_at alts_nil)) (sums_cons (smOf_ok (alts_cons mac_Parse_at alts_nil)) (sums_cons (smOf_ok (alts_cons ref09_Parse_at alts_nil)) (sums_cons (smOf_ok (alts_cons mac_Group_at alts_nil)) (sums_cons (smOf_ok (alts_cons ref09_Group_at alts_nil)) (sums_cons (smOf_ok (alts_cons ref09_Kept_at alts_nil)) (sums_cons (smOf_ok (alts_cons mac_Text_at alts_nil)) (sums_cons (smOf_ok (alts_cons ref09_Text_at alts_nil)) (sums_nil)))))))))))))) (B := law09_MacTells_B mac_Of ref09_Of mac_Parse ref09_Parse mac_Group ref09_Group ref09_Kept mac_Text ref09_Text) (hooks_nil) opts 40) fun k => law09_MacTells_eq mac_Of ref09_Of mac_Parse ref09_Parse mac_Group ref09_Group ref09_Kept mac_Text ref09_Text _ _ _ _ _ k
theorem call_ok : CallSem Tryd.prog (runS tt (has eql) Tryd.prog.funcs 1152921504606846976 (law09_MacTells_S mac_Of ref09_Of mac_Parse ref09_Parse mac_Group ref09_Group ref09_Kept mac_Text ref09_Text) (law09_MacTells_B mac_Of ref09_Of mac_Parse ref09_Parse mac_Group ref09_Group ref09_Kept mac_Text ref09_Text) opts 40) := runS_ok ttOk eqOk mixed (names_ok namesOk) (S := law09_MacTells_S mac_Of ref09_Of mac_Parse ref09_Parse mac_Group ref09_Group ref09_Kept mac_Text ref09_Text) (sums_cons yes7_ok (sums_cons idx_ok (sums_cons join_ok (sums_cons split_ok (sums_cons (smOf_ok (alts_cons mac_Of_at alts_nil)) (sums_cons (smOf_ok (alts_cons ref09_Of_at alts_nil)) (sums_cons (smOf_ok (alts_cons mac_Parse_at alts_nil)) (sums_cons (smOf_ok (alts_cons ref09_Parse_at alts_nil)) (sums_cons (smOf_ok (alts_cons mac_Group_at alts_nil)) (sums_cons (smOf_ok (alts_cons ref09_Group_at alts_nil)) (sums_cons (smOf_ok (alts_cons ref09_Kept_at alts_nil)) (sums_cons (smOf_ok (alts_cons mac_Text_at alts_nil)) (sums_cons (smOf_ok (alts_cons ref09_Text_at alts_nil)) (sums_nil)))))))))))))) (B := law09_MacTells_B mac_Of ref09_Of mac_Parse ref09_Parse mac_Group ref09_Group ref09_Kept mac_Text ref09_Text) (hooks_nil) opts 40
theorem law_eq (a_1 : Int) (a_2 : Bool) (a_3 : Nat) (a_4 : Nat → Nat → PV) (a_5 : ByteArray) (k : FK) : runS tt (has eql) Tryd.prog.funcs 1152921504606846976 (law09_MacTells_S mac_Of ref09_Of mac_Parse ref09_Parse mac_Group ref09_Group ref09_Kept mac_Text ref09_Text) (law09_MacTells_B mac_Of ref09_Of mac_Parse ref09_Parse mac_Group ref09_Group ref09_Kept mac_Text ref09_Text) opts 40 3 [.v (.c (.pv (.val (.int .u64 a_1)))), .v (.c (.pv (.sl a_2 (.int .u8 .nil) 1 a_3 (a_4)))), .v (.c (.pv (.val (.string a_5))))] [] k = law09_MacTells a_1 a_2 a_3 a_4 a_5 (k (.v (.c (.pv (.val (.bool true))))) []) (k (.v (.c (.pv (.val (.bool false))))) []) := law09_MacTells_eq mac_Of ref09_Of mac_Parse ref09_Parse mac_Group ref09_Group ref09_Kept mac_Text ref09_Text a_1 a_2 a_3 a_4 a_5 k
end Go.Proofs.YtampnnhdgnhjaaaDoor.MacTells

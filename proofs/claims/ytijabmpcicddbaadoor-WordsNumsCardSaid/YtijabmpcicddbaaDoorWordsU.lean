/- WordsTell, WordsBack, WordsNums: the code of the laws and of all that they call, told by functions over numbers and rows. WRITTEN BY gen.py. -/
import Derived.Test.YtijabmpcicddbaaDoorHand
set_option linter.unusedVariables false
namespace Go.Proofs.YtijabmpcicddbaaDoor.Words
open Go.Ve
set_option maxRecDepth 100000
theorem wakes_eq12 (k : AV → List AObj → Option Out) : runS tt (has eql) Tryd.prog.funcs 100000 [(34, itoaSm), (13, numSm), (94, idxSm), (33, joinSm), (52, splitSm)] [] opts 40 12 [] [] k = k (.b true) [] := by kernel_rfl
theorem yes12_ok : SumOk Tryd.prog 12 yes := SumOk.yes (runS_ok ttOk eqOk mixed (names_ok namesOk) (S := [(34, itoaSm), (13, numSm), (94, idxSm), (33, joinSm), (52, splitSm)]) (sums_cons itoa_ok (sums_cons num_ok (sums_cons idx_ok (sums_cons join_ok (sums_cons split_ok (sums_nil)))))) hooks_nil opts 40) wakes_eq12
/- weirgate/weirgatelaw21.fair: loop 0 -/
def law21_fair_L0_S  : List (Nat × Sm) := [(12, yes), (34, itoaSm), (13, numSm), (94, idxSm), (33, joinSm), (52, splitSm)]
def law21_fair_L0_B  : Hooks := []
noncomputable def law21_fair_L0_C  : Ctx := { tt := tt, eqs := has eql, call := runS tt (has eql) Tryd.prog.funcs 18446744073709551616 (law21_fair_L0_S ) (law21_fair_L0_B ) opts 40, fuel := 18446744073709551616, blk := fun i => aget [] i, bor := opts.bor }
def law21_fair_L0_lo : Vx → List Nat := fun | .normal => [0] | .exit j => (fun _ => []) j | .ret => [2]
def law21_fair_L0_h0 (a_1 : Bool) (a_2 : Nat) (a_3 : Nat → Nat → PV) (a_4 : Int) : St := { n := 19, m := 0, t := [(0, .v (.c (.pv (.sl a_1 (.str .nil) 1 a_2 (a_3))))), (3, .v (.c (.pv (.val (.int .i64 a_4)))))], h := [], nx := 0 }
def law21_fair_L0_x0  : St := { n := 19, m := 0, t := [(2, .v (.c (.pv (.val (.bool false)))))], h := [], nx := 0 }
def law21_fair_L0_x1 (r0 : Bool) (r1 : Nat) (r2 : Nat → Nat → PV) : St := { n := 19, m := 0, t := [(0, .v (.c (.pv (.sl r0 (.str .nil) 1 r1 (r2)))))], h := [], nx := 0 }
def law21_fair_L0_s0 {α : Type}  (rec0 : Bool → Nat → (Nat → Nat → PV) → Int → Option α) (k0 : Option α) (k1 : Bool → Nat → (Nat → Nat → PV) → Option α) (a_1 : Bool) (a_2 : Nat) (a_3 : Nat → Nat → PV) (a_4 : Int) : Option α := bif decide (a_4 < (a_2 : Int)) then
  bif inb a_4 a_2 then
   bif decide ((((textOf (a_3 a_4.toNat 0)).size : Nat) : Int) > 300) then
    k0
   else rec0 a_1 a_2 a_3 (IntKind.i64.wrap (a_4 + 1))
  else none /- test -/
 else k1 a_1 a_2 a_3
def law21_fair_L0_l0 {α : Type} (k0 : Option α) (k1 : Bool → Nat → (Nat → Nat → PV) → Option α) : Nat → Bool → Nat → (Nat → Nat → PV) → Int → Option α
  | 0 => fun _ _ _ _ => none
  | n + 1 => law21_fair_L0_s0  (law21_fair_L0_l0 k0 k1 n) k0 k1
theorem law21_fair_L0_s0_eq  (k : Kont) (n : Nat) (a_1 : Bool) (a_2 : Nat) (a_3 : Nat → Nat → PV) (a_4 : Int) : loopN (fun st k => exec (law21_fair_L0_C ) (loopBody (codeAt Tryd.f11 0)) st k) [0, 3] (loopK 0 (kn law21_fair_L0_lo k)) (n + 1) (law21_fair_L0_h0 a_1 a_2 a_3 a_4) = law21_fair_L0_s0  (fun a_1 a_2 a_3 a_4 => loopN (fun st k => exec (law21_fair_L0_C ) (loopBody (codeAt Tryd.f11 0)) st k) [0, 3] (loopK 0 (kn law21_fair_L0_lo k)) n (law21_fair_L0_h0 a_1 a_2 a_3 a_4)) (k .ret (law21_fair_L0_x0)) (fun r0 r1 r2 => k .normal (law21_fair_L0_x1 r0 r1 r2)) a_1 a_2 a_3 a_4 := by kernel_rfl
theorem law21_fair_L0_l0_eq (k : Kont) : ∀ (n : Nat) (a_1 : Bool) (a_2 : Nat) (a_3 : Nat → Nat → PV) (a_4 : Int), loopN (fun st k => exec (law21_fair_L0_C ) (loopBody (codeAt Tryd.f11 0)) st k) [0, 3] (loopK 0 (kn law21_fair_L0_lo k)) n (law21_fair_L0_h0 a_1 a_2 a_3 a_4) = law21_fair_L0_l0 (k .ret (law21_fair_L0_x0)) (fun r0 r1 r2 => k .normal (law21_fair_L0_x1 r0 r1 r2)) n a_1 a_2 a_3 a_4
  | 0, _, _, _, _ => rfl
  | n + 1, a_1, a_2, a_3, a_4 => by
    have r0 : (fun a_1 a_2 a_3 a_4 => loopN (fun st k => exec (law21_fair_L0_C ) (loopBody (codeAt Tryd.f11 0)) st k) [0, 3] (loopK 0 (kn law21_fair_L0_lo k)) n (law21_fair_L0_h0 a_1 a_2 a_3 a_4)) = law21_fair_L0_l0 (k .ret (law21_fair_L0_x0)) (fun r0 r1 r2 => k .normal (law21_fair_L0_x1 r0 r1 r2)) n := funext fun a_1 => funext fun a_2 => funext fun a_3 => funext fun a_4 => law21_fair_L0_l0_eq k n a_1 a_2 a_3 a_4
    exact (law21_fair_L0_s0_eq  k n a_1 a_2 a_3 a_4).trans (by rw [r0]; rfl)
def law21_fair_L0 {α : Type} (a_1 : Bool) (a_2 : Nat) (a_3 : Nat → Nat → PV) (k0 : Option α) (k1 : Bool → Nat → (Nat → Nat → PV) → Option α) : Option α := law21_fair_L0_l0 k0 k1 18446744073709551616 a_1 a_2 a_3 0
def law21_fair_L0_e (a_1 : Bool) (a_2 : Nat) (a_3 : Nat → Nat → PV) : St := { n := 19, m := 0, t := [(0, .v (.c (.pv (.sl a_1 (.str .nil) 1 a_2 (a_3))))), (3, .v (.c (.pv (.val (.int .i64 0)))))], h := [], nx := 0 }
theorem law21_fair_L0_eq (a_1 : Bool) (a_2 : Nat) (a_3 : Nat → Nat → PV) (k : Kont) : exec (law21_fair_L0_C ) (codeAt Tryd.f11 0) (law21_fair_L0_e a_1 a_2 a_3) (kn law21_fair_L0_lo k) = law21_fair_L0 a_1 a_2 a_3 (k .ret (law21_fair_L0_x0)) (fun r0 r1 r2 => k .normal (law21_fair_L0_x1 r0 r1 r2)) :=
  (by kernel_rfl : _ = loopN (fun st k => exec (law21_fair_L0_C ) (loopBody (codeAt Tryd.f11 0)) st k) [0, 3] (loopK 0 (kn law21_fair_L0_lo k)) 18446744073709551616 (law21_fair_L0_h0 a_1 a_2 a_3 0)).trans (law21_fair_L0_l0_eq k 18446744073709551616 a_1 a_2 a_3 0)
def law21_fair_L0_p : PSt := { n := 19, m := 0, t := [(0, .v (.c (.pv (.sl .h (.str .nil) 1 .h)))), (3, .v (.c (.pv (.int .i64 (.l 0)))))], h := [], nx := 0 }
def law21_fair_L0_F (h : List Hole) (k : Kont) : Option Out := law21_fair_L0 (gB h 0) (gN h 1) (gF h 2) (k .ret (law21_fair_L0_x0)) (fun r0 r1 r2 => k .normal (law21_fair_L0_x1 r0 r1 r2))
theorem law21_fair_L0_at (h : List Hole) : BodyAt Tryd.prog (codeAt Tryd.f11 0) (stFill law21_fair_L0_p h) (law21_fair_L0_F h) := by
  have e : stFill law21_fair_L0_p h = law21_fair_L0_e (gB h 0) (gN h 1) (gF h 2) := by kernel_rfl
  rw [e]; exact bodyAt_of (C := law21_fair_L0_C ) ⟨ttOk, eqOk, runS_ok ttOk eqOk mixed (names_ok namesOk) (S := law21_fair_L0_S ) (sums_cons yes12_ok (sums_cons itoa_ok (sums_cons num_ok (sums_cons idx_ok (sums_cons join_ok (sums_cons split_ok (sums_nil))))))) (B := law21_fair_L0_B ) (hooks_nil) opts 40⟩ mixed (hooked_in (by kernel_rfl) blk_nil 0) fun k => law21_fair_L0_eq _ _ _ k
/- weirgate/weirgatelaw21.fair -/
def law21_fair_T {α : Type} (Glaw21_fair_L0 : Bool → Nat → (Nat → Nat → PV) → (Option α) → (Bool → Nat → (Nat → Nat → PV) → Option α) → Option α) (a_1 : Bool) (a_2 : Nat) (a_3 : Nat → Nat → PV) (k0 : Bool → Option α) : Option α := Glaw21_fair_L0 a_1 a_2 a_3
  (k0 false)
  (fun r_4 r_5 r_6 => k0 (decide ((r_5 : Int) ≤ 50)))
def law21_fair {α : Type} (a_1 : Bool) (a_2 : Nat) (a_3 : Nat → Nat → PV) (k0 : Bool → Option α) : Option α := law21_fair_T law21_fair_L0 a_1 a_2 a_3 k0
def law21_fair_S (Glaw21_fair_L0 : Bool → Nat → (Nat → Nat → PV) → (Option Out) → (Bool → Nat → (Nat → Nat → PV) → Option Out) → Option Out) : List (Nat × Sm) := [(12, yes), (34, itoaSm), (13, numSm), (94, idxSm), (33, joinSm), (52, splitSm)]
def law21_fair_B (Glaw21_fair_L0 : Bool → Nat → (Nat → Nat → PV) → (Option Out) → (Bool → Nat → (Nat → Nat → PV) → Option Out) → Option Out) : Hooks := [(11, [(0, hookG [0, 3] [] (bkOf [(law21_fair_L0_p, fun h k => Glaw21_fair_L0 (gB h 0) (gN h 1) (gF h 2) (k .ret (law21_fair_L0_x0)) (fun r0 r1 r2 => k .normal (law21_fair_L0_x1 r0 r1 r2)))]))])]
theorem law21_fair_eq (Glaw21_fair_L0 : Bool → Nat → (Nat → Nat → PV) → (Option Out) → (Bool → Nat → (Nat → Nat → PV) → Option Out) → Option Out) (a_1 : Bool) (a_2 : Nat) (a_3 : Nat → Nat → PV) (k : FK) : runS tt (has eql) Tryd.prog.funcs 18446744073709551616 (law21_fair_S Glaw21_fair_L0) (law21_fair_B Glaw21_fair_L0) opts 40 11 [.v (.c (.pv (.sl a_1 (.str .nil) 1 a_2 (a_3))))] [] k = law21_fair_T Glaw21_fair_L0 a_1 a_2 a_3 (fun r0 => k (.v (.c (.pv (.val (.bool r0))))) []) := by kernel_rfl
def law21_fair_p : PAr := ⟨[.v (.c (.pv (.sl .h (.str .nil) 1 .h)))], []⟩
def law21_fair_F (h : List Hole) (k : FK) : Option Out := law21_fair (gB h 0) (gN h 1) (gF h 2) (fun r0 => k (.v (.c (.pv (.val (.bool r0))))) [])
theorem law21_fair_at (h : List Hole) : CallAt Tryd.prog 11 (arFill law21_fair_p h).1 (arFill law21_fair_p h).2 (law21_fair_F h) := by
  have e : arFill law21_fair_p h = ([.v (.c (.pv (.sl (gB h 0) (.str .nil) 1 (gN h 1) ((gF h 2)))))], []) := by kernel_rfl
  rw [e]; exact callAt_of (runS_ok ttOk eqOk mixed (names_ok namesOk) (S := law21_fair_S law21_fair_L0) (sums_cons yes12_ok (sums_cons itoa_ok (sums_cons num_ok (sums_cons idx_ok (sums_cons join_ok (sums_cons split_ok (sums_nil))))))) (B := law21_fair_B law21_fair_L0) (hooks_add (fn := Tryd.f11) (by kernel_rfl) (by kernel_rfl) (blk_cons (bkOf_ok (blts_cons law21_fair_L0_at blts_nil)) blk_nil) (hooks_nil)) opts 40) fun k => law21_fair_eq law21_fair_L0 _ _ _ k
def e1 (x0 : Int) (x1 : ByteArray) (x2 : Int) : Int := IntKind.i64.wrap ((IntKind.i64.wrap (x0 * 10)) + (IntKind.i64.wrap (IntKind.u8.wrap ((bt x1 x2) - 48))))
/- weirgate/weirgateref21.Num: loop 0 -/
def ref21_Num_L0_S  : List (Nat × Sm) := [(12, yes), (34, itoaSm), (13, numSm), (94, idxSm), (33, joinSm), (52, splitSm)]
def ref21_Num_L0_B  : Hooks := []
noncomputable def ref21_Num_L0_C  : Ctx := { tt := tt, eqs := has eql, call := runS tt (has eql) Tryd.prog.funcs 18446744073709551616 (ref21_Num_L0_S ) (ref21_Num_L0_B ) opts 40, fuel := 18446744073709551616, blk := fun i => aget [] i, bor := opts.bor }
def ref21_Num_L0_lo : Vx → List Nat := fun | .normal => [0, 2, 3] | .exit j => (fun _ => []) j | .ret => [2]
def ref21_Num_L0_h0 (a_1 : ByteArray) (a_2 : Int) (a_3 : Int) : St := { n := 49, m := 0, t := [(0, .v (.c (.pv (.val (.string a_1))))), (2, .v (.c (.ptr 0 0))), (3, .v (.c (.pv (.val (.int .i64 a_2))))), (4, .v (.c (.pv (.val (.int .i64 a_3)))))], h := [(0, .cells false [.pv (.val (.int .i64 0)), .pv (.val (.bool false))])], nx := 1 }
def ref21_Num_L0_x0  : St := { n := 49, m := 0, t := [(2, .v (.c (.ptr 0 0)))], h := [(0, .cells false [.pv (.val (.int .i64 0)), .pv (.val (.bool false))])], nx := 1 }
def ref21_Num_L0_x1 (r0 : ByteArray) (r1 : Int) : St := { n := 49, m := 0, t := [(0, .v (.c (.pv (.val (.string r0))))), (2, .v (.c (.ptr 0 0))), (3, .v (.c (.pv (.val (.int .i64 r1)))))], h := [(0, .cells false [.pv (.val (.int .i64 0)), .pv (.val (.bool false))])], nx := 1 }
def ref21_Num_L0_s0 {α : Type}  (rec0 : ByteArray → Int → Int → Option α) (k0 : Option α) (k1 : ByteArray → Int → Option α) (a_1 : ByteArray) (a_2 : Int) (a_3 : Int) : Option α := bif decide (a_3 < (a_1.size : Int)) then
  bif inb a_3 a_1.size then
   bif decide ((bt a_1 a_3) < 48) then
    k0
   else bif inb a_3 a_1.size then
    bif decide ((bt a_1 a_3) > 57) then
     k0
    else bif inb a_3 a_1.size then
     rec0 a_1 (e1 a_2 a_1 a_3) (IntKind.i64.wrap (a_3 + 1))
    else none /- test -/
   else none /- test -/
  else none /- test -/
 else k1 a_1 a_2
def ref21_Num_L0_l0 {α : Type} (k0 : Option α) (k1 : ByteArray → Int → Option α) : Nat → ByteArray → Int → Int → Option α
  | 0 => fun _ _ _ => none
  | n + 1 => ref21_Num_L0_s0  (ref21_Num_L0_l0 k0 k1 n) k0 k1
theorem ref21_Num_L0_s0_eq  (k : Kont) (n : Nat) (a_1 : ByteArray) (a_2 : Int) (a_3 : Int) : loopN (fun st k => exec (ref21_Num_L0_C ) (loopBody (codeAt Tryd.f14 0)) st k) [0, 2, 3, 4] (loopK 0 (kn ref21_Num_L0_lo k)) (n + 1) (ref21_Num_L0_h0 a_1 a_2 a_3) = ref21_Num_L0_s0  (fun a_1 a_2 a_3 => loopN (fun st k => exec (ref21_Num_L0_C ) (loopBody (codeAt Tryd.f14 0)) st k) [0, 2, 3, 4] (loopK 0 (kn ref21_Num_L0_lo k)) n (ref21_Num_L0_h0 a_1 a_2 a_3)) (k .ret (ref21_Num_L0_x0)) (fun r0 r1 => k .normal (ref21_Num_L0_x1 r0 r1)) a_1 a_2 a_3 := by kernel_rfl
theorem ref21_Num_L0_l0_eq (k : Kont) : ∀ (n : Nat) (a_1 : ByteArray) (a_2 : Int) (a_3 : Int), loopN (fun st k => exec (ref21_Num_L0_C ) (loopBody (codeAt Tryd.f14 0)) st k) [0, 2, 3, 4] (loopK 0 (kn ref21_Num_L0_lo k)) n (ref21_Num_L0_h0 a_1 a_2 a_3) = ref21_Num_L0_l0 (k .ret (ref21_Num_L0_x0)) (fun r0 r1 => k .normal (ref21_Num_L0_x1 r0 r1)) n a_1 a_2 a_3
  | 0, _, _, _ => rfl
  | n + 1, a_1, a_2, a_3 => by
    have r0 : (fun a_1 a_2 a_3 => loopN (fun st k => exec (ref21_Num_L0_C ) (loopBody (codeAt Tryd.f14 0)) st k) [0, 2, 3, 4] (loopK 0 (kn ref21_Num_L0_lo k)) n (ref21_Num_L0_h0 a_1 a_2 a_3)) = ref21_Num_L0_l0 (k .ret (ref21_Num_L0_x0)) (fun r0 r1 => k .normal (ref21_Num_L0_x1 r0 r1)) n := funext fun a_1 => funext fun a_2 => funext fun a_3 => ref21_Num_L0_l0_eq k n a_1 a_2 a_3
    exact (ref21_Num_L0_s0_eq  k n a_1 a_2 a_3).trans (by rw [r0]; rfl)
def ref21_Num_L0 {α : Type} (a_1 : ByteArray) (k0 : Option α) (k1 : ByteArray → Int → Option α) : Option α := ref21_Num_L0_l0 k0 k1 18446744073709551616 a_1 0 0
def ref21_Num_L0_e (a_1 : ByteArray) : St := { n := 49, m := 0, t := [(0, .v (.c (.pv (.val (.string a_1))))), (2, .v (.c (.ptr 0 0))), (3, .v (.c (.pv (.val (.int .i64 0))))), (4, .v (.c (.pv (.val (.int .i64 0)))))], h := [(0, .cells false [.pv (.val (.int .i64 0)), .pv (.val (.bool false))])], nx := 1 }
theorem ref21_Num_L0_eq (a_1 : ByteArray) (k : Kont) : exec (ref21_Num_L0_C ) (codeAt Tryd.f14 0) (ref21_Num_L0_e a_1) (kn ref21_Num_L0_lo k) = ref21_Num_L0 a_1 (k .ret (ref21_Num_L0_x0)) (fun r0 r1 => k .normal (ref21_Num_L0_x1 r0 r1)) :=
  (by kernel_rfl : _ = loopN (fun st k => exec (ref21_Num_L0_C ) (loopBody (codeAt Tryd.f14 0)) st k) [0, 2, 3, 4] (loopK 0 (kn ref21_Num_L0_lo k)) 18446744073709551616 (ref21_Num_L0_h0 a_1 0 0)).trans (ref21_Num_L0_l0_eq k 18446744073709551616 a_1 0 0)
def ref21_Num_L0_p : PSt := { n := 49, m := 0, t := [(0, .v (.c (.pv (.str)))), (2, .v (.c (.ptr 0 0))), (3, .v (.c (.pv (.int .i64 (.l 0))))), (4, .v (.c (.pv (.int .i64 (.l 0)))))], h := [(0, .cells (.l false) [.pv (.int .i64 (.l 0)), .pv (.bool (.l false))])], nx := 1 }
def ref21_Num_L0_F (h : List Hole) (k : Kont) : Option Out := ref21_Num_L0 (gS h 0) (k .ret (ref21_Num_L0_x0)) (fun r0 r1 => k .normal (ref21_Num_L0_x1 r0 r1))
theorem ref21_Num_L0_at (h : List Hole) : BodyAt Tryd.prog (codeAt Tryd.f14 0) (stFill ref21_Num_L0_p h) (ref21_Num_L0_F h) := by
  have e : stFill ref21_Num_L0_p h = ref21_Num_L0_e (gS h 0) := by kernel_rfl
  rw [e]; exact bodyAt_of (C := ref21_Num_L0_C ) ⟨ttOk, eqOk, runS_ok ttOk eqOk mixed (names_ok namesOk) (S := ref21_Num_L0_S ) (sums_cons yes12_ok (sums_cons itoa_ok (sums_cons num_ok (sums_cons idx_ok (sums_cons join_ok (sums_cons split_ok (sums_nil))))))) (B := ref21_Num_L0_B ) (hooks_nil) opts 40⟩ mixed (hooked_in (by kernel_rfl) blk_nil 0) fun k => ref21_Num_L0_eq _ k
def e2 (x0 : Int) : Int := IntKind.u64.wrap ((IntKind.u64.wrap (IntKind.i64.wrap (0 - (IntKind.i64.wrap (x0 + 1))))) + 1)
def e3 (x0 : Int) : ByteArray := strOf 1 (rowOf 1 [.val (.int .u8 (IntKind.u8.wrap (48 + (IntKind.u8.wrap (x0.tmod 10)))))])
/- weirgate/weirgateref21.Text: loop 0 -/
def ref21_Text_L0_S  : List (Nat × Sm) := [(12, yes), (34, itoaSm), (13, numSm), (94, idxSm), (33, joinSm), (52, splitSm)]
def ref21_Text_L0_B  : Hooks := []
noncomputable def ref21_Text_L0_C  : Ctx := { tt := tt, eqs := has eql, call := runS tt (has eql) Tryd.prog.funcs 18446744073709551616 (ref21_Text_L0_S ) (ref21_Text_L0_B ) opts 40, fuel := 18446744073709551616, blk := fun i => aget [] i, bor := opts.bor }
def ref21_Text_L0_lo : Vx → List Nat := fun | .normal => [0, 4] | .exit j => (fun _ => []) j | .ret => [2]
def ref21_Text_L0_h0 (a_1 : Int) (a_2 : Int) (a_3 : ByteArray) : St := { n := 31, m := 0, t := [(0, .v (.c (.pv (.val (.int .i64 a_1))))), (3, .v (.c (.pv (.val (.int .u64 a_2))))), (4, .v (.c (.pv (.val (.string a_3)))))], h := [], nx := 0 }
def ref21_Text_L0_x0 (r0 : Int) (r1 : ByteArray) : St := { n := 31, m := 0, t := [(0, .v (.c (.pv (.val (.int .i64 r0))))), (4, .v (.c (.pv (.val (.string r1)))))], h := [], nx := 0 }
def ref21_Text_L0_s0 {α : Type}  (rec0 : Int → Int → ByteArray → Option α) (k0 : Int → ByteArray → Option α) (a_1 : Int) (a_2 : Int) (a_3 : ByteArray) : Option α := bif Nat.ble ((e3 a_2).size + a_3.size) 4611686018427387904 then
  bif ((IntKind.u64.wrap (a_2.tdiv 10)) == 0) then
   k0 a_1 ((e3 a_2) ++ a_3)
  else rec0 a_1 (IntKind.u64.wrap (a_2.tdiv 10)) ((e3 a_2) ++ a_3)
 else none /- test -/
def ref21_Text_L0_l0 {α : Type} (k0 : Int → ByteArray → Option α) : Nat → Int → Int → ByteArray → Option α
  | 0 => fun _ _ _ => none
  | n + 1 => ref21_Text_L0_s0  (ref21_Text_L0_l0 k0 n) k0
theorem ref21_Text_L0_s0_eq  (k : Kont) (n : Nat) (a_1 : Int) (a_2 : Int) (a_3 : ByteArray) : loopN (fun st k => exec (ref21_Text_L0_C ) (loopBody (codeAt Tryd.f21 0)) st k) [0, 3, 4] (loopK 0 (kn ref21_Text_L0_lo k)) (n + 1) (ref21_Text_L0_h0 a_1 a_2 a_3) = ref21_Text_L0_s0  (fun a_1 a_2 a_3 => loopN (fun st k => exec (ref21_Text_L0_C ) (loopBody (codeAt Tryd.f21 0)) st k) [0, 3, 4] (loopK 0 (kn ref21_Text_L0_lo k)) n (ref21_Text_L0_h0 a_1 a_2 a_3)) (fun r0 r1 => k .normal (ref21_Text_L0_x0 r0 r1)) a_1 a_2 a_3 := by kernel_rfl
theorem ref21_Text_L0_l0_eq (k : Kont) : ∀ (n : Nat) (a_1 : Int) (a_2 : Int) (a_3 : ByteArray), loopN (fun st k => exec (ref21_Text_L0_C ) (loopBody (codeAt Tryd.f21 0)) st k) [0, 3, 4] (loopK 0 (kn ref21_Text_L0_lo k)) n (ref21_Text_L0_h0 a_1 a_2 a_3) = ref21_Text_L0_l0 (fun r0 r1 => k .normal (ref21_Text_L0_x0 r0 r1)) n a_1 a_2 a_3
  | 0, _, _, _ => rfl
  | n + 1, a_1, a_2, a_3 => by
    have r0 : (fun a_1 a_2 a_3 => loopN (fun st k => exec (ref21_Text_L0_C ) (loopBody (codeAt Tryd.f21 0)) st k) [0, 3, 4] (loopK 0 (kn ref21_Text_L0_lo k)) n (ref21_Text_L0_h0 a_1 a_2 a_3)) = ref21_Text_L0_l0 (fun r0 r1 => k .normal (ref21_Text_L0_x0 r0 r1)) n := funext fun a_1 => funext fun a_2 => funext fun a_3 => ref21_Text_L0_l0_eq k n a_1 a_2 a_3
    exact (ref21_Text_L0_s0_eq  k n a_1 a_2 a_3).trans (by rw [r0]; rfl)
def ref21_Text_L0 {α : Type} (a_1 : Int) (a_2 : Int) (k0 : Int → ByteArray → Option α) : Option α := ref21_Text_L0_l0 k0 18446744073709551616 a_1 a_2 (⟨#[]⟩ : ByteArray)
def ref21_Text_L0_e (a_1 : Int) (a_2 : Int) : St := { n := 31, m := 0, t := [(0, .v (.c (.pv (.val (.int .i64 a_1))))), (3, .v (.c (.pv (.val (.int .u64 a_2))))), (4, .v (.c (.pv (.val (.string (⟨#[]⟩ : ByteArray))))))], h := [], nx := 0 }
theorem ref21_Text_L0_eq (a_1 : Int) (a_2 : Int) (k : Kont) : exec (ref21_Text_L0_C ) (codeAt Tryd.f21 0) (ref21_Text_L0_e a_1 a_2) (kn ref21_Text_L0_lo k) = ref21_Text_L0 a_1 a_2 (fun r0 r1 => k .normal (ref21_Text_L0_x0 r0 r1)) :=
  (by kernel_rfl : _ = loopN (fun st k => exec (ref21_Text_L0_C ) (loopBody (codeAt Tryd.f21 0)) st k) [0, 3, 4] (loopK 0 (kn ref21_Text_L0_lo k)) 18446744073709551616 (ref21_Text_L0_h0 a_1 a_2 (⟨#[]⟩ : ByteArray))).trans (ref21_Text_L0_l0_eq k 18446744073709551616 a_1 a_2 (⟨#[]⟩ : ByteArray))
def ref21_Text_L0_p : PSt := { n := 31, m := 0, t := [(0, .v (.c (.pv (.int .i64 .h)))), (3, .v (.c (.pv (.int .u64 .h)))), (4, .v (.c (.pv (.strl []))))], h := [], nx := 0 }
def ref21_Text_L0_F (h : List Hole) (k : Kont) : Option Out := ref21_Text_L0 (gI h 0) (gI h 1) (fun r0 r1 => k .normal (ref21_Text_L0_x0 r0 r1))
theorem ref21_Text_L0_at (h : List Hole) : BodyAt Tryd.prog (codeAt Tryd.f21 0) (stFill ref21_Text_L0_p h) (ref21_Text_L0_F h) := by
  have e : stFill ref21_Text_L0_p h = ref21_Text_L0_e (gI h 0) (gI h 1) := by kernel_rfl
  rw [e]; exact bodyAt_of (C := ref21_Text_L0_C ) ⟨ttOk, eqOk, runS_ok ttOk eqOk mixed (names_ok namesOk) (S := ref21_Text_L0_S ) (sums_cons yes12_ok (sums_cons itoa_ok (sums_cons num_ok (sums_cons idx_ok (sums_cons join_ok (sums_cons split_ok (sums_nil))))))) (B := ref21_Text_L0_B ) (hooks_nil) opts 40⟩ mixed (hooked_in (by kernel_rfl) blk_nil 0) fun k => ref21_Text_L0_eq _ _ k
/- weirgate/weirgateref21.Text -/
def ref21_Text_T {α : Type} (Gref21_Text_L0 : Int → Int → (Int → ByteArray → Option α) → Option α) (a_1 : Int) (k0 : ByteArray → Option α) : Option α := bif decide (a_1 < 0) then
  Gref21_Text_L0 a_1 (e2 a_1)
   (fun r_2 r_3 => bif decide (r_2 < 0) then
    bif Nat.ble ((⟨#[45]⟩ : ByteArray).size + r_3.size) 4611686018427387904 then
     k0 ((⟨#[45]⟩ : ByteArray) ++ r_3)
    else none /- test -/
   else k0 r_3)
 else Gref21_Text_L0 a_1 (IntKind.u64.wrap a_1)
  (fun r_2 r_3 => bif decide (r_2 < 0) then
   bif Nat.ble ((⟨#[45]⟩ : ByteArray).size + r_3.size) 4611686018427387904 then
    k0 ((⟨#[45]⟩ : ByteArray) ++ r_3)
   else none /- test -/
  else k0 r_3)
def ref21_Text {α : Type} (a_1 : Int) (k0 : ByteArray → Option α) : Option α := ref21_Text_T ref21_Text_L0 a_1 k0
def ref21_Text_S (Gref21_Text_L0 : Int → Int → (Int → ByteArray → Option Out) → Option Out) : List (Nat × Sm) := [(12, yes), (34, itoaSm), (13, numSm), (94, idxSm), (33, joinSm), (52, splitSm)]
def ref21_Text_B (Gref21_Text_L0 : Int → Int → (Int → ByteArray → Option Out) → Option Out) : Hooks := [(21, [(0, hookG [0, 3, 4] [] (bkOf [(ref21_Text_L0_p, fun h k => Gref21_Text_L0 (gI h 0) (gI h 1) (fun r0 r1 => k .normal (ref21_Text_L0_x0 r0 r1)))]))])]
theorem ref21_Text_eq (Gref21_Text_L0 : Int → Int → (Int → ByteArray → Option Out) → Option Out) (a_1 : Int) (k : FK) : runS tt (has eql) Tryd.prog.funcs 18446744073709551616 (ref21_Text_S Gref21_Text_L0) (ref21_Text_B Gref21_Text_L0) opts 40 21 [.v (.c (.pv (.val (.int .i64 a_1))))] [] k = ref21_Text_T Gref21_Text_L0 a_1 (fun r0 => k (.v (.c (.pv (.val (.string r0))))) []) := by kernel_rfl
def ref21_Text_p : PAr := ⟨[.v (.c (.pv (.int .i64 .h)))], []⟩
def ref21_Text_F (h : List Hole) (k : FK) : Option Out := ref21_Text (gI h 0) (fun r0 => k (.v (.c (.pv (.val (.string r0))))) [])
theorem ref21_Text_at (h : List Hole) : CallAt Tryd.prog 21 (arFill ref21_Text_p h).1 (arFill ref21_Text_p h).2 (ref21_Text_F h) := by
  have e : arFill ref21_Text_p h = ([.v (.c (.pv (.val (.int .i64 (gI h 0)))))], []) := by kernel_rfl
  rw [e]; exact callAt_of (runS_ok ttOk eqOk mixed (names_ok namesOk) (S := ref21_Text_S ref21_Text_L0) (sums_cons yes12_ok (sums_cons itoa_ok (sums_cons num_ok (sums_cons idx_ok (sums_cons join_ok (sums_cons split_ok (sums_nil))))))) (B := ref21_Text_B ref21_Text_L0) (hooks_add (fn := Tryd.f21) (by kernel_rfl) (by kernel_rfl) (blk_cons (bkOf_ok (blts_cons ref21_Text_L0_at blts_nil)) blk_nil) (hooks_nil)) opts 40) fun k => ref21_Text_eq ref21_Text_L0 _ k
/- weirgate/weirgateref21.Num -/
def ref21_Num_T {α : Type} (Gref21_Num_L0 : ByteArray → (Option α) → (ByteArray → Int → Option α) → Option α) (Gref21_Text : Int → (ByteArray → Option α) → Option α) (a_1 : ByteArray) (k0 : Option α) (k1 : Int → Option α) : Option α := bif (a_1.toList == (⟨#[]⟩ : ByteArray).toList) then
  k0
 else bif decide ((a_1.size : Int) > 10) then
  k0
 else Gref21_Num_L0 a_1
  (k0)
  (fun r_2 r_3 => bif decide (r_3 ≥ 4294967296) then
   k0
  else Gref21_Text r_3
   (fun r_4 => bif !(r_4.toList == r_2.toList) then
    k0
   else k1 r_3))
def ref21_Num {α : Type} (a_1 : ByteArray) (k0 : Option α) (k1 : Int → Option α) : Option α := ref21_Num_T ref21_Num_L0 ref21_Text a_1 k0 k1
def ref21_Num_S (Gref21_Num_L0 : ByteArray → (Option Out) → (ByteArray → Int → Option Out) → Option Out) (Gref21_Text : Int → (ByteArray → Option Out) → Option Out) : List (Nat × Sm) := [(12, yes), (34, itoaSm), (13, numSm), (94, idxSm), (33, joinSm), (52, splitSm), (21, smOf [(ref21_Text_p, fun h k => Gref21_Text (gI h 0) (fun r0 => k (.v (.c (.pv (.val (.string r0))))) []))])]
def ref21_Num_B (Gref21_Num_L0 : ByteArray → (Option Out) → (ByteArray → Int → Option Out) → Option Out) (Gref21_Text : Int → (ByteArray → Option Out) → Option Out) : Hooks := [(14, [(0, hookG [0, 2, 3, 4] [] (bkOf [(ref21_Num_L0_p, fun h k => Gref21_Num_L0 (gS h 0) (k .ret (ref21_Num_L0_x0)) (fun r0 r1 => k .normal (ref21_Num_L0_x1 r0 r1)))]))])]
theorem ref21_Num_eq (Gref21_Num_L0 : ByteArray → (Option Out) → (ByteArray → Int → Option Out) → Option Out) (Gref21_Text : Int → (ByteArray → Option Out) → Option Out) (a_1 : ByteArray) (k : FK) : runS tt (has eql) Tryd.prog.funcs 18446744073709551616 (ref21_Num_S Gref21_Num_L0 Gref21_Text) (ref21_Num_B Gref21_Num_L0 Gref21_Text) opts 40 14 [.v (.c (.pv (.val (.string a_1))))] [] k = ref21_Num_T Gref21_Num_L0 Gref21_Text a_1 (k (.v (.agg [.pv (.val (.int .i64 0)), .pv (.val (.bool false))])) []) (fun r0 => k (.v (.agg [.pv (.val (.int .i64 r0)), .pv (.val (.bool true))])) []) := by kernel_rfl
def ref21_Num_p : PAr := ⟨[.v (.c (.pv (.str)))], []⟩
def ref21_Num_F (h : List Hole) (k : FK) : Option Out := ref21_Num (gS h 0) (k (.v (.agg [.pv (.val (.int .i64 0)), .pv (.val (.bool false))])) []) (fun r0 => k (.v (.agg [.pv (.val (.int .i64 r0)), .pv (.val (.bool true))])) [])
theorem ref21_Num_at (h : List Hole) : CallAt Tryd.prog 14 (arFill ref21_Num_p h).1 (arFill ref21_Num_p h).2 (ref21_Num_F h) := by
  have e : arFill ref21_Num_p h = ([.v (.c (.pv (.val (.string (gS h 0)))))], []) := by kernel_rfl
  rw [e]; exact callAt_of (runS_ok ttOk eqOk mixed (names_ok namesOk) (S := ref21_Num_S ref21_Num_L0 ref21_Text) (sums_cons yes12_ok (sums_cons itoa_ok (sums_cons num_ok (sums_cons idx_ok (sums_cons join_ok (sums_cons split_ok (sums_cons (smOf_ok (alts_cons ref21_Text_at alts_nil)) (sums_nil)))))))) (B := ref21_Num_B ref21_Num_L0 ref21_Text) (hooks_add (fn := Tryd.f14) (by kernel_rfl) (by kernel_rfl) (blk_cons (bkOf_ok (blts_cons ref21_Num_L0_at blts_nil)) blk_nil) (hooks_nil)) opts 40) fun k => ref21_Num_eq ref21_Num_L0 ref21_Text _ k
/- weirgate/words.Cut: loop 0 -/
def words_Cut_L0_S  : List (Nat × Sm) := [(12, yes), (34, itoaSm), (13, numSm), (94, idxSm), (33, joinSm), (52, splitSm)]
def words_Cut_L0_B  : Hooks := []
noncomputable def words_Cut_L0_C  : Ctx := { tt := tt, eqs := has eql, call := runS tt (has eql) Tryd.prog.funcs 18446744073709551616 (words_Cut_L0_S ) (words_Cut_L0_B ) opts 40, fuel := 18446744073709551616, blk := fun i => aget [] i, bor := opts.bor }
def words_Cut_L0_lo : Vx → List Nat := fun | .normal => [3] | .exit j => (fun _ => []) j | .ret => [2]
def words_Cut_L0_h0 (a_1 : Int) (a_2 : Int) (a_3 : Bool) (a_4 : Nat) (a_5 : Nat → Nat → PV) (a_6 : Nat) (a_7 : Nat → Nat → PV) : St := { n := 21, m := 0, t := [(3, .v (.c (.own 0))), (7, .v (.c (.own 1))), (8, .v (.c (.pv (.val (.int .i64 a_1))))), (9, .v (.c (.pv (.val (.int .i64 a_2)))))], h := [(0, .parr false a_3 (.str .nil) 1 a_4 (a_5)), (1, .parr false false (.str .nil) 1 a_6 (a_7))], nx := 2 }
def words_Cut_L0_x0 (r0 : Bool) (r1 : Nat) (r2 : Nat → Nat → PV) : St := { n := 21, m := 0, t := [(3, .v (.c (.own 0)))], h := [(0, .parr false r0 (.str .nil) 1 r1 (r2))], nx := 1 }
def words_Cut_L0_s0 {α : Type}  (rec0 : Int → Int → Bool → Nat → (Nat → Nat → PV) → Nat → (Nat → Nat → PV) → Option α) (k0 : Bool → Nat → (Nat → Nat → PV) → Option α) (a_1 : Int) (a_2 : Int) (a_3 : Bool) (a_4 : Nat) (a_5 : Nat → Nat → PV) (a_6 : Nat) (a_7 : Nat → Nat → PV) : Option α := bif decide (a_2 < a_1) then
  bif inb a_2 a_6 then
   bif !((textOf (a_7 a_2.toNat 0)).toList == (⟨#[]⟩ : ByteArray).toList) then
    bif Nat.ble ((a_4 + 1) * 16) bound then
     rec0 a_1 (IntKind.i64.wrap (a_2 + 1)) (a_3 && false) (a_4 + 1) (catf a_4 (a_5) (rowOf 1 [.val (.string (textOf (a_7 a_2.toNat 0)))])) a_6 a_7
    else none /- test -/
   else rec0 a_1 (IntKind.i64.wrap (a_2 + 1)) a_3 a_4 a_5 a_6 a_7
  else none /- test -/
 else k0 a_3 a_4 a_5
def words_Cut_L0_l0 {α : Type} (k0 : Bool → Nat → (Nat → Nat → PV) → Option α) : Nat → Int → Int → Bool → Nat → (Nat → Nat → PV) → Nat → (Nat → Nat → PV) → Option α
  | 0 => fun _ _ _ _ _ _ _ => none
  | n + 1 => words_Cut_L0_s0  (words_Cut_L0_l0 k0 n) k0
theorem words_Cut_L0_s0_eq  (k : Kont) (n : Nat) (a_1 : Int) (a_2 : Int) (a_3 : Bool) (a_4 : Nat) (a_5 : Nat → Nat → PV) (a_6 : Nat) (a_7 : Nat → Nat → PV) : loopN (fun st k => exec (words_Cut_L0_C ) (loopBody (codeAt Tryd.f16 0)) st k) [3, 7, 8, 9] (loopK 0 (kn words_Cut_L0_lo k)) (n + 1) (words_Cut_L0_h0 a_1 a_2 a_3 a_4 a_5 a_6 a_7) = words_Cut_L0_s0  (fun a_1 a_2 a_3 a_4 a_5 a_6 a_7 => loopN (fun st k => exec (words_Cut_L0_C ) (loopBody (codeAt Tryd.f16 0)) st k) [3, 7, 8, 9] (loopK 0 (kn words_Cut_L0_lo k)) n (words_Cut_L0_h0 a_1 a_2 a_3 a_4 a_5 a_6 a_7)) (fun r0 r1 r2 => k .normal (words_Cut_L0_x0 r0 r1 r2)) a_1 a_2 a_3 a_4 a_5 a_6 a_7 := by kernel_rfl
theorem words_Cut_L0_l0_eq (k : Kont) : ∀ (n : Nat) (a_1 : Int) (a_2 : Int) (a_3 : Bool) (a_4 : Nat) (a_5 : Nat → Nat → PV) (a_6 : Nat) (a_7 : Nat → Nat → PV), loopN (fun st k => exec (words_Cut_L0_C ) (loopBody (codeAt Tryd.f16 0)) st k) [3, 7, 8, 9] (loopK 0 (kn words_Cut_L0_lo k)) n (words_Cut_L0_h0 a_1 a_2 a_3 a_4 a_5 a_6 a_7) = words_Cut_L0_l0 (fun r0 r1 r2 => k .normal (words_Cut_L0_x0 r0 r1 r2)) n a_1 a_2 a_3 a_4 a_5 a_6 a_7
  | 0, _, _, _, _, _, _, _ => rfl
  | n + 1, a_1, a_2, a_3, a_4, a_5, a_6, a_7 => by
    have r0 : (fun a_1 a_2 a_3 a_4 a_5 a_6 a_7 => loopN (fun st k => exec (words_Cut_L0_C ) (loopBody (codeAt Tryd.f16 0)) st k) [3, 7, 8, 9] (loopK 0 (kn words_Cut_L0_lo k)) n (words_Cut_L0_h0 a_1 a_2 a_3 a_4 a_5 a_6 a_7)) = words_Cut_L0_l0 (fun r0 r1 r2 => k .normal (words_Cut_L0_x0 r0 r1 r2)) n := funext fun a_1 => funext fun a_2 => funext fun a_3 => funext fun a_4 => funext fun a_5 => funext fun a_6 => funext fun a_7 => words_Cut_L0_l0_eq k n a_1 a_2 a_3 a_4 a_5 a_6 a_7
    exact (words_Cut_L0_s0_eq  k n a_1 a_2 a_3 a_4 a_5 a_6 a_7).trans (by rw [r0]; rfl)
def words_Cut_L0 {α : Type} (a_1 : Int) (a_2 : Nat → Nat → PV) (a_3 : Nat) (a_4 : Nat → Nat → PV) (k0 : Bool → Nat → (Nat → Nat → PV) → Option α) : Option α := words_Cut_L0_l0 k0 18446744073709551616 a_1 0 true 0 a_2 a_3 a_4
def words_Cut_L0_e (a_1 : Int) (a_2 : Nat → Nat → PV) (a_3 : Nat) (a_4 : Nat → Nat → PV) : St := { n := 21, m := 0, t := [(3, .v (.c (.own 0))), (7, .v (.c (.own 1))), (8, .v (.c (.pv (.val (.int .i64 a_1))))), (9, .v (.c (.pv (.val (.int .i64 0)))))], h := [(0, .parr false true (.str .nil) 1 0 (a_2)), (1, .parr false false (.str .nil) 1 a_3 (a_4))], nx := 2 }
theorem words_Cut_L0_eq (a_1 : Int) (a_2 : Nat → Nat → PV) (a_3 : Nat) (a_4 : Nat → Nat → PV) (k : Kont) : exec (words_Cut_L0_C ) (codeAt Tryd.f16 0) (words_Cut_L0_e a_1 a_2 a_3 a_4) (kn words_Cut_L0_lo k) = words_Cut_L0 a_1 a_2 a_3 a_4 (fun r0 r1 r2 => k .normal (words_Cut_L0_x0 r0 r1 r2)) :=
  (by kernel_rfl : _ = loopN (fun st k => exec (words_Cut_L0_C ) (loopBody (codeAt Tryd.f16 0)) st k) [3, 7, 8, 9] (loopK 0 (kn words_Cut_L0_lo k)) 18446744073709551616 (words_Cut_L0_h0 a_1 0 true 0 a_2 a_3 a_4)).trans (words_Cut_L0_l0_eq k 18446744073709551616 a_1 0 true 0 a_2 a_3 a_4)
def words_Cut_L0_p : PSt := { n := 21, m := 0, t := [(3, .v (.c (.own 0))), (7, .v (.c (.own 1))), (8, .v (.c (.pv (.int .i64 .h)))), (9, .v (.c (.pv (.int .i64 (.l 0)))))], h := [(0, .parr (.l false) (.l true) (.str .nil) 1 (.l 0)), (1, .parr (.l false) (.l false) (.str .nil) 1 .h)], nx := 2 }
def words_Cut_L0_F (h : List Hole) (k : Kont) : Option Out := words_Cut_L0 (gI h 0) (gF h 1) (gN h 2) (gF h 3) (fun r0 r1 r2 => k .normal (words_Cut_L0_x0 r0 r1 r2))
theorem words_Cut_L0_at (h : List Hole) : BodyAt Tryd.prog (codeAt Tryd.f16 0) (stFill words_Cut_L0_p h) (words_Cut_L0_F h) := by
  have e : stFill words_Cut_L0_p h = words_Cut_L0_e (gI h 0) (gF h 1) (gN h 2) (gF h 3) := by kernel_rfl
  rw [e]; exact bodyAt_of (C := words_Cut_L0_C ) ⟨ttOk, eqOk, runS_ok ttOk eqOk mixed (names_ok namesOk) (S := words_Cut_L0_S ) (sums_cons yes12_ok (sums_cons itoa_ok (sums_cons num_ok (sums_cons idx_ok (sums_cons join_ok (sums_cons split_ok (sums_nil))))))) (B := words_Cut_L0_B ) (hooks_nil) opts 40⟩ mixed (hooked_in (by kernel_rfl) blk_nil 0) fun k => words_Cut_L0_eq _ _ _ _ k
def e4 (x0 : Nat → Nat → PV) (x1 : ByteArray) (x2 : Int) (x3 : Int) : Nat → Nat → PV := catf 0 (x0) (rowOf 1 [.val (.string (x1.extract x2.toNat (x2.toNat + (x3.toNat - x2.toNat))))])
def e5 (x0 : Nat) (x1 : Nat → Nat → PV) (x2 : ByteArray) (x3 : Int) (x4 : Int) : Nat → Nat → PV := catf x0 (x1) (rowOf 1 [.val (.string (x2.extract x3.toNat (x3.toNat + (x4.toNat - x3.toNat))))])
/- weirgate/weirgateref21.Cut: loop 0 -/
def ref21_Cut_L0_S  : List (Nat × Sm) := [(12, yes), (34, itoaSm), (13, numSm), (94, idxSm), (33, joinSm), (52, splitSm)]
def ref21_Cut_L0_B  : Hooks := []
noncomputable def ref21_Cut_L0_C  : Ctx := { tt := tt, eqs := has eql, call := runS tt (has eql) Tryd.prog.funcs 18446744073709551616 (ref21_Cut_L0_S ) (ref21_Cut_L0_B ) opts 40, fuel := 18446744073709551616, blk := fun i => aget [] i, bor := opts.bor }
def ref21_Cut_L0_lo : Vx → List Nat := fun | .normal => [3] | .exit j => (fun _ => []) j | .ret => [2]
def ref21_Cut_L0_h0 (a_1 : ByteArray) (a_2 : Int) (a_3 : Int) (a_4 : Bool) (a_5 : Nat) (a_6 : Nat → Nat → PV) : St := { n := 35, m := 0, t := [(0, .v (.c (.pv (.val (.string a_1))))), (3, .v (.c (.own 0))), (4, .v (.c (.pv (.val (.int .i64 a_2))))), (5, .v (.c (.pv (.val (.int .i64 a_3)))))], h := [(0, .parr false a_4 (.str .nil) 1 a_5 (a_6))], nx := 1 }
def ref21_Cut_L0_x0 (r0 : Bool) (r1 : Nat) (r2 : Nat → Nat → PV) : St := { n := 35, m := 0, t := [(3, .v (.c (.own 0)))], h := [(0, .parr false r0 (.str .nil) 1 r1 (r2))], nx := 1 }
def ref21_Cut_L0_s0 {α : Type}  (rec0 : ByteArray → Int → Int → Bool → Nat → (Nat → Nat → PV) → Option α) (k0 : Bool → Nat → (Nat → Nat → PV) → Option α) (a_1 : ByteArray) (a_2 : Int) (a_3 : Int) (a_4 : Bool) (a_5 : Nat) (a_6 : Nat → Nat → PV) : Option α := bif decide (a_3 ≤ (a_1.size : Int)) then
  bif (a_3 == (a_1.size : Int)) then
   bif decide (a_3 > a_2) then
    bif inb a_3 (a_1.size + 1) then
     bif (decide (0 ≤ a_2) && decide (a_2 ≤ a_3)) then
      bif Nat.ble ((a_5 + 1) * 16) bound then
       rec0 a_1 (IntKind.i64.wrap (a_3 + 1)) (IntKind.i64.wrap (a_3 + 1)) (a_4 && false) (a_5 + 1) (e5 a_5 a_6 a_1 a_2 a_3)
      else none /- test -/
     else none /- test -/
    else none /- test -/
   else rec0 a_1 (IntKind.i64.wrap (a_3 + 1)) (IntKind.i64.wrap (a_3 + 1)) a_4 a_5 a_6
  else bif inb a_3 a_1.size then
   bif ((bt a_1 a_3) == 32) then
    bif decide (a_3 > a_2) then
     bif inb a_3 (a_1.size + 1) then
      bif (decide (0 ≤ a_2) && decide (a_2 ≤ a_3)) then
       bif Nat.ble ((a_5 + 1) * 16) bound then
        rec0 a_1 (IntKind.i64.wrap (a_3 + 1)) (IntKind.i64.wrap (a_3 + 1)) (a_4 && false) (a_5 + 1) (e5 a_5 a_6 a_1 a_2 a_3)
       else none /- test -/
      else none /- test -/
     else none /- test -/
    else rec0 a_1 (IntKind.i64.wrap (a_3 + 1)) (IntKind.i64.wrap (a_3 + 1)) a_4 a_5 a_6
   else rec0 a_1 a_2 (IntKind.i64.wrap (a_3 + 1)) a_4 a_5 a_6
  else none /- test -/
 else k0 a_4 a_5 a_6
def ref21_Cut_L0_l0 {α : Type} (k0 : Bool → Nat → (Nat → Nat → PV) → Option α) : Nat → ByteArray → Int → Int → Bool → Nat → (Nat → Nat → PV) → Option α
  | 0 => fun _ _ _ _ _ _ => none
  | n + 1 => ref21_Cut_L0_s0  (ref21_Cut_L0_l0 k0 n) k0
theorem ref21_Cut_L0_s0_eq  (k : Kont) (n : Nat) (a_1 : ByteArray) (a_2 : Int) (a_3 : Int) (a_4 : Bool) (a_5 : Nat) (a_6 : Nat → Nat → PV) : loopN (fun st k => exec (ref21_Cut_L0_C ) (loopBody (codeAt Tryd.f17 0)) st k) [0, 3, 4, 5] (loopK 0 (kn ref21_Cut_L0_lo k)) (n + 1) (ref21_Cut_L0_h0 a_1 a_2 a_3 a_4 a_5 a_6) = ref21_Cut_L0_s0  (fun a_1 a_2 a_3 a_4 a_5 a_6 => loopN (fun st k => exec (ref21_Cut_L0_C ) (loopBody (codeAt Tryd.f17 0)) st k) [0, 3, 4, 5] (loopK 0 (kn ref21_Cut_L0_lo k)) n (ref21_Cut_L0_h0 a_1 a_2 a_3 a_4 a_5 a_6)) (fun r0 r1 r2 => k .normal (ref21_Cut_L0_x0 r0 r1 r2)) a_1 a_2 a_3 a_4 a_5 a_6 := by kernel_rfl
theorem ref21_Cut_L0_l0_eq (k : Kont) : ∀ (n : Nat) (a_1 : ByteArray) (a_2 : Int) (a_3 : Int) (a_4 : Bool) (a_5 : Nat) (a_6 : Nat → Nat → PV), loopN (fun st k => exec (ref21_Cut_L0_C ) (loopBody (codeAt Tryd.f17 0)) st k) [0, 3, 4, 5] (loopK 0 (kn ref21_Cut_L0_lo k)) n (ref21_Cut_L0_h0 a_1 a_2 a_3 a_4 a_5 a_6) = ref21_Cut_L0_l0 (fun r0 r1 r2 => k .normal (ref21_Cut_L0_x0 r0 r1 r2)) n a_1 a_2 a_3 a_4 a_5 a_6
  | 0, _, _, _, _, _, _ => rfl
  | n + 1, a_1, a_2, a_3, a_4, a_5, a_6 => by
    have r0 : (fun a_1 a_2 a_3 a_4 a_5 a_6 => loopN (fun st k => exec (ref21_Cut_L0_C ) (loopBody (codeAt Tryd.f17 0)) st k) [0, 3, 4, 5] (loopK 0 (kn ref21_Cut_L0_lo k)) n (ref21_Cut_L0_h0 a_1 a_2 a_3 a_4 a_5 a_6)) = ref21_Cut_L0_l0 (fun r0 r1 r2 => k .normal (ref21_Cut_L0_x0 r0 r1 r2)) n := funext fun a_1 => funext fun a_2 => funext fun a_3 => funext fun a_4 => funext fun a_5 => funext fun a_6 => ref21_Cut_L0_l0_eq k n a_1 a_2 a_3 a_4 a_5 a_6
    exact (ref21_Cut_L0_s0_eq  k n a_1 a_2 a_3 a_4 a_5 a_6).trans (by rw [r0]; rfl)
def ref21_Cut_L0 {α : Type} (a_1 : ByteArray) (a_2 : Nat → Nat → PV) (k0 : Bool → Nat → (Nat → Nat → PV) → Option α) : Option α := ref21_Cut_L0_l0 k0 18446744073709551616 a_1 0 0 true 0 a_2
def ref21_Cut_L0_e (a_1 : ByteArray) (a_2 : Nat → Nat → PV) : St := { n := 35, m := 0, t := [(0, .v (.c (.pv (.val (.string a_1))))), (3, .v (.c (.own 0))), (4, .v (.c (.pv (.val (.int .i64 0))))), (5, .v (.c (.pv (.val (.int .i64 0)))))], h := [(0, .parr false true (.str .nil) 1 0 (a_2))], nx := 1 }
theorem ref21_Cut_L0_eq (a_1 : ByteArray) (a_2 : Nat → Nat → PV) (k : Kont) : exec (ref21_Cut_L0_C ) (codeAt Tryd.f17 0) (ref21_Cut_L0_e a_1 a_2) (kn ref21_Cut_L0_lo k) = ref21_Cut_L0 a_1 a_2 (fun r0 r1 r2 => k .normal (ref21_Cut_L0_x0 r0 r1 r2)) :=
  (by kernel_rfl : _ = loopN (fun st k => exec (ref21_Cut_L0_C ) (loopBody (codeAt Tryd.f17 0)) st k) [0, 3, 4, 5] (loopK 0 (kn ref21_Cut_L0_lo k)) 18446744073709551616 (ref21_Cut_L0_h0 a_1 0 0 true 0 a_2)).trans (ref21_Cut_L0_l0_eq k 18446744073709551616 a_1 0 0 true 0 a_2)
def ref21_Cut_L0_p : PSt := { n := 35, m := 0, t := [(0, .v (.c (.pv (.str)))), (3, .v (.c (.own 0))), (4, .v (.c (.pv (.int .i64 (.l 0))))), (5, .v (.c (.pv (.int .i64 (.l 0)))))], h := [(0, .parr (.l false) (.l true) (.str .nil) 1 (.l 0))], nx := 1 }
def ref21_Cut_L0_F (h : List Hole) (k : Kont) : Option Out := ref21_Cut_L0 (gS h 0) (gF h 1) (fun r0 r1 r2 => k .normal (ref21_Cut_L0_x0 r0 r1 r2))
theorem ref21_Cut_L0_at (h : List Hole) : BodyAt Tryd.prog (codeAt Tryd.f17 0) (stFill ref21_Cut_L0_p h) (ref21_Cut_L0_F h) := by
  have e : stFill ref21_Cut_L0_p h = ref21_Cut_L0_e (gS h 0) (gF h 1) := by kernel_rfl
  rw [e]; exact bodyAt_of (C := ref21_Cut_L0_C ) ⟨ttOk, eqOk, runS_ok ttOk eqOk mixed (names_ok namesOk) (S := ref21_Cut_L0_S ) (sums_cons yes12_ok (sums_cons itoa_ok (sums_cons num_ok (sums_cons idx_ok (sums_cons join_ok (sums_cons split_ok (sums_nil))))))) (B := ref21_Cut_L0_B ) (hooks_nil) opts 40⟩ mixed (hooked_in (by kernel_rfl) blk_nil 0) fun k => ref21_Cut_L0_eq _ _ k
/- weirgate/weirgatekeep.Texts: loop 0 -/
def keep_Texts_L0_S  : List (Nat × Sm) := [(12, yes), (34, itoaSm), (13, numSm), (94, idxSm), (33, joinSm), (52, splitSm)]
def keep_Texts_L0_B  : Hooks := []
noncomputable def keep_Texts_L0_C  : Ctx := { tt := tt, eqs := has eql, call := runS tt (has eql) Tryd.prog.funcs 18446744073709551616 (keep_Texts_L0_S ) (keep_Texts_L0_B ) opts 40, fuel := 18446744073709551616, blk := fun i => aget [] i, bor := opts.bor }
def keep_Texts_L0_lo : Vx → List Nat := fun | .normal => [] | .exit j => (fun _ => []) j | .ret => [4]
def keep_Texts_L0_h0 (a_1 : Bool) (a_2 : Nat) (a_3 : Nat → Nat → PV) (a_4 : Bool) (a_5 : Nat) (a_6 : Nat → Nat → PV) (a_7 : Int) : St := { n := 26, m := 0, t := [(0, .v (.c (.pv (.sl a_1 (.str .nil) 1 a_2 (a_3))))), (1, .v (.c (.pv (.sl a_4 (.str .nil) 1 a_5 (a_6))))), (5, .v (.c (.pv (.val (.int .i64 a_7)))))], h := [], nx := 0 }
def keep_Texts_L0_x0  : St := { n := 26, m := 0, t := [(4, .v (.c (.pv (.val (.bool false)))))], h := [], nx := 0 }
def keep_Texts_L0_x1  : St := { n := 26, m := 0, t := [], h := [], nx := 0 }
def keep_Texts_L0_s0 {α : Type}  (rec0 : Bool → Nat → (Nat → Nat → PV) → Bool → Nat → (Nat → Nat → PV) → Int → Option α) (k0 : Option α) (k1 : Option α) (a_1 : Bool) (a_2 : Nat) (a_3 : Nat → Nat → PV) (a_4 : Bool) (a_5 : Nat) (a_6 : Nat → Nat → PV) (a_7 : Int) : Option α := bif decide (a_7 < (a_2 : Int)) then
  bif inb a_7 a_2 then
   bif inb a_7 a_5 then
    bif !((textOf (a_3 a_7.toNat 0)).toList == (textOf (a_6 a_7.toNat 0)).toList) then
     k0
    else rec0 a_1 a_2 a_3 a_4 a_5 a_6 (IntKind.i64.wrap (a_7 + 1))
   else none /- test -/
  else none /- test -/
 else k1
def keep_Texts_L0_l0 {α : Type} (k0 : Option α) (k1 : Option α) : Nat → Bool → Nat → (Nat → Nat → PV) → Bool → Nat → (Nat → Nat → PV) → Int → Option α
  | 0 => fun _ _ _ _ _ _ _ => none
  | n + 1 => keep_Texts_L0_s0  (keep_Texts_L0_l0 k0 k1 n) k0 k1
theorem keep_Texts_L0_s0_eq  (k : Kont) (n : Nat) (a_1 : Bool) (a_2 : Nat) (a_3 : Nat → Nat → PV) (a_4 : Bool) (a_5 : Nat) (a_6 : Nat → Nat → PV) (a_7 : Int) : loopN (fun st k => exec (keep_Texts_L0_C ) (loopBody (codeAt Tryd.f15 0)) st k) [0, 1, 5] (loopK 0 (kn keep_Texts_L0_lo k)) (n + 1) (keep_Texts_L0_h0 a_1 a_2 a_3 a_4 a_5 a_6 a_7) = keep_Texts_L0_s0  (fun a_1 a_2 a_3 a_4 a_5 a_6 a_7 => loopN (fun st k => exec (keep_Texts_L0_C ) (loopBody (codeAt Tryd.f15 0)) st k) [0, 1, 5] (loopK 0 (kn keep_Texts_L0_lo k)) n (keep_Texts_L0_h0 a_1 a_2 a_3 a_4 a_5 a_6 a_7)) (k .ret (keep_Texts_L0_x0)) (k .normal (keep_Texts_L0_x1)) a_1 a_2 a_3 a_4 a_5 a_6 a_7 := by kernel_rfl
theorem keep_Texts_L0_l0_eq (k : Kont) : ∀ (n : Nat) (a_1 : Bool) (a_2 : Nat) (a_3 : Nat → Nat → PV) (a_4 : Bool) (a_5 : Nat) (a_6 : Nat → Nat → PV) (a_7 : Int), loopN (fun st k => exec (keep_Texts_L0_C ) (loopBody (codeAt Tryd.f15 0)) st k) [0, 1, 5] (loopK 0 (kn keep_Texts_L0_lo k)) n (keep_Texts_L0_h0 a_1 a_2 a_3 a_4 a_5 a_6 a_7) = keep_Texts_L0_l0 (k .ret (keep_Texts_L0_x0)) (k .normal (keep_Texts_L0_x1)) n a_1 a_2 a_3 a_4 a_5 a_6 a_7
  | 0, _, _, _, _, _, _, _ => rfl
  | n + 1, a_1, a_2, a_3, a_4, a_5, a_6, a_7 => by
    have r0 : (fun a_1 a_2 a_3 a_4 a_5 a_6 a_7 => loopN (fun st k => exec (keep_Texts_L0_C ) (loopBody (codeAt Tryd.f15 0)) st k) [0, 1, 5] (loopK 0 (kn keep_Texts_L0_lo k)) n (keep_Texts_L0_h0 a_1 a_2 a_3 a_4 a_5 a_6 a_7)) = keep_Texts_L0_l0 (k .ret (keep_Texts_L0_x0)) (k .normal (keep_Texts_L0_x1)) n := funext fun a_1 => funext fun a_2 => funext fun a_3 => funext fun a_4 => funext fun a_5 => funext fun a_6 => funext fun a_7 => keep_Texts_L0_l0_eq k n a_1 a_2 a_3 a_4 a_5 a_6 a_7
    exact (keep_Texts_L0_s0_eq  k n a_1 a_2 a_3 a_4 a_5 a_6 a_7).trans (by rw [r0]; rfl)
def keep_Texts_L0 {α : Type} (a_1 : Bool) (a_2 : Nat) (a_3 : Nat → Nat → PV) (a_4 : Bool) (a_5 : Nat) (a_6 : Nat → Nat → PV) (k0 : Option α) (k1 : Option α) : Option α := keep_Texts_L0_l0 k0 k1 18446744073709551616 a_1 a_2 a_3 a_4 a_5 a_6 0
def keep_Texts_L0_e (a_1 : Bool) (a_2 : Nat) (a_3 : Nat → Nat → PV) (a_4 : Bool) (a_5 : Nat) (a_6 : Nat → Nat → PV) : St := { n := 26, m := 0, t := [(0, .v (.c (.pv (.sl a_1 (.str .nil) 1 a_2 (a_3))))), (1, .v (.c (.pv (.sl a_4 (.str .nil) 1 a_5 (a_6))))), (5, .v (.c (.pv (.val (.int .i64 0)))))], h := [], nx := 0 }
theorem keep_Texts_L0_eq (a_1 : Bool) (a_2 : Nat) (a_3 : Nat → Nat → PV) (a_4 : Bool) (a_5 : Nat) (a_6 : Nat → Nat → PV) (k : Kont) : exec (keep_Texts_L0_C ) (codeAt Tryd.f15 0) (keep_Texts_L0_e a_1 a_2 a_3 a_4 a_5 a_6) (kn keep_Texts_L0_lo k) = keep_Texts_L0 a_1 a_2 a_3 a_4 a_5 a_6 (k .ret (keep_Texts_L0_x0)) (k .normal (keep_Texts_L0_x1)) :=
  (by kernel_rfl : _ = loopN (fun st k => exec (keep_Texts_L0_C ) (loopBody (codeAt Tryd.f15 0)) st k) [0, 1, 5] (loopK 0 (kn keep_Texts_L0_lo k)) 18446744073709551616 (keep_Texts_L0_h0 a_1 a_2 a_3 a_4 a_5 a_6 0)).trans (keep_Texts_L0_l0_eq k 18446744073709551616 a_1 a_2 a_3 a_4 a_5 a_6 0)
def keep_Texts_L0_p : PSt := { n := 26, m := 0, t := [(0, .v (.c (.pv (.sl .h (.str .nil) 1 .h)))), (1, .v (.c (.pv (.sl .h (.str .nil) 1 .h)))), (5, .v (.c (.pv (.int .i64 (.l 0)))))], h := [], nx := 0 }
def keep_Texts_L0_F (h : List Hole) (k : Kont) : Option Out := keep_Texts_L0 (gB h 0) (gN h 1) (gF h 2) (gB h 3) (gN h 4) (gF h 5) (k .ret (keep_Texts_L0_x0)) (k .normal (keep_Texts_L0_x1))
theorem keep_Texts_L0_at (h : List Hole) : BodyAt Tryd.prog (codeAt Tryd.f15 0) (stFill keep_Texts_L0_p h) (keep_Texts_L0_F h) := by
  have e : stFill keep_Texts_L0_p h = keep_Texts_L0_e (gB h 0) (gN h 1) (gF h 2) (gB h 3) (gN h 4) (gF h 5) := by kernel_rfl
  rw [e]; exact bodyAt_of (C := keep_Texts_L0_C ) ⟨ttOk, eqOk, runS_ok ttOk eqOk mixed (names_ok namesOk) (S := keep_Texts_L0_S ) (sums_cons yes12_ok (sums_cons itoa_ok (sums_cons num_ok (sums_cons idx_ok (sums_cons join_ok (sums_cons split_ok (sums_nil))))))) (B := keep_Texts_L0_B ) (hooks_nil) opts 40⟩ mixed (hooked_in (by kernel_rfl) blk_nil 0) fun k => keep_Texts_L0_eq _ _ _ _ _ _ k
/- weirgate/weirgatekeep.Texts -/
def keep_Texts_T {α : Type} (Gkeep_Texts_L0 : Bool → Nat → (Nat → Nat → PV) → Bool → Nat → (Nat → Nat → PV) → (Option α) → (Option α) → Option α) (a_1 : Bool) (a_2 : Nat) (a_3 : Nat → Nat → PV) (a_4 : Bool) (a_5 : Nat) (a_6 : Nat → Nat → PV) (k0 : Option α) (k1 : Option α) : Option α := bif ((a_2 : Int) != (a_5 : Int)) then
  k0
 else Gkeep_Texts_L0 a_1 a_2 a_3 a_4 a_5 a_6
  (k0)
  (k1)
def keep_Texts {α : Type} (a_1 : Bool) (a_2 : Nat) (a_3 : Nat → Nat → PV) (a_4 : Bool) (a_5 : Nat) (a_6 : Nat → Nat → PV) (k0 : Option α) (k1 : Option α) : Option α := keep_Texts_T keep_Texts_L0 a_1 a_2 a_3 a_4 a_5 a_6 k0 k1
def keep_Texts_S (Gkeep_Texts_L0 : Bool → Nat → (Nat → Nat → PV) → Bool → Nat → (Nat → Nat → PV) → (Option Out) → (Option Out) → Option Out) : List (Nat × Sm) := [(12, yes), (34, itoaSm), (13, numSm), (94, idxSm), (33, joinSm), (52, splitSm)]
def keep_Texts_B (Gkeep_Texts_L0 : Bool → Nat → (Nat → Nat → PV) → Bool → Nat → (Nat → Nat → PV) → (Option Out) → (Option Out) → Option Out) : Hooks := [(15, [(0, hookG [0, 1, 5] [] (bkOf [(keep_Texts_L0_p, fun h k => Gkeep_Texts_L0 (gB h 0) (gN h 1) (gF h 2) (gB h 3) (gN h 4) (gF h 5) (k .ret (keep_Texts_L0_x0)) (k .normal (keep_Texts_L0_x1)))]))])]
theorem keep_Texts_eq (Gkeep_Texts_L0 : Bool → Nat → (Nat → Nat → PV) → Bool → Nat → (Nat → Nat → PV) → (Option Out) → (Option Out) → Option Out) (a_1 : Bool) (a_2 : Nat) (a_3 : Nat → Nat → PV) (a_4 : Bool) (a_5 : Nat) (a_6 : Nat → Nat → PV) (k : FK) : runS tt (has eql) Tryd.prog.funcs 18446744073709551616 (keep_Texts_S Gkeep_Texts_L0) (keep_Texts_B Gkeep_Texts_L0) opts 40 15 [.v (.c (.pv (.sl a_1 (.str .nil) 1 a_2 (a_3)))), .v (.c (.pv (.sl a_4 (.str .nil) 1 a_5 (a_6))))] [] k = keep_Texts_T Gkeep_Texts_L0 a_1 a_2 a_3 a_4 a_5 a_6 (k (.v (.c (.pv (.val (.bool false))))) []) (k (.v (.c (.pv (.val (.bool true))))) []) := by kernel_rfl
def keep_Texts_p : PAr := ⟨[.v (.c (.pv (.sl .h (.str .nil) 1 .h))), .v (.c (.pv (.sl .h (.str .nil) 1 .h)))], []⟩
def keep_Texts_F (h : List Hole) (k : FK) : Option Out := keep_Texts (gB h 0) (gN h 1) (gF h 2) (gB h 3) (gN h 4) (gF h 5) (k (.v (.c (.pv (.val (.bool false))))) []) (k (.v (.c (.pv (.val (.bool true))))) [])
theorem keep_Texts_at (h : List Hole) : CallAt Tryd.prog 15 (arFill keep_Texts_p h).1 (arFill keep_Texts_p h).2 (keep_Texts_F h) := by
  have e : arFill keep_Texts_p h = ([.v (.c (.pv (.sl (gB h 0) (.str .nil) 1 (gN h 1) ((gF h 2))))), .v (.c (.pv (.sl (gB h 3) (.str .nil) 1 (gN h 4) ((gF h 5)))))], []) := by kernel_rfl
  rw [e]; exact callAt_of (runS_ok ttOk eqOk mixed (names_ok namesOk) (S := keep_Texts_S keep_Texts_L0) (sums_cons yes12_ok (sums_cons itoa_ok (sums_cons num_ok (sums_cons idx_ok (sums_cons join_ok (sums_cons split_ok (sums_nil))))))) (B := keep_Texts_B keep_Texts_L0) (hooks_add (fn := Tryd.f15) (by kernel_rfl) (by kernel_rfl) (blk_cons (bkOf_ok (blts_cons keep_Texts_L0_at blts_nil)) blk_nil) (hooks_nil)) opts 40) fun k => keep_Texts_eq keep_Texts_L0 _ _ _ _ _ _ k
/- weirgate/words.Join: loop 0 -/
def words_Join_L0_S  : List (Nat × Sm) := [(12, yes), (34, itoaSm), (13, numSm), (94, idxSm), (33, joinSm), (52, splitSm)]
def words_Join_L0_B  : Hooks := []
noncomputable def words_Join_L0_C  : Ctx := { tt := tt, eqs := has eql, call := runS tt (has eql) Tryd.prog.funcs 18446744073709551616 (words_Join_L0_S ) (words_Join_L0_B ) opts 40, fuel := 18446744073709551616, blk := fun i => aget [] i, bor := opts.bor }
def words_Join_L0_lo : Vx → List Nat := fun | .normal => [3] | .exit j => (fun _ => []) j | .ret => [2]
def words_Join_L0_h0 (a_1 : Bool) (a_2 : Nat) (a_3 : Nat → Nat → PV) (a_4 : Int) (a_5 : Int) (a_6 : Bool) (a_7 : Nat) (a_8 : Nat → Nat → PV) : St := { n := 21, m := 0, t := [(3, .v (.c (.own 0))), (6, .v (.c (.pv (.sl a_1 (.str .nil) 1 a_2 (a_3))))), (7, .v (.c (.pv (.val (.int .i64 a_4))))), (8, .v (.c (.pv (.val (.int .i64 a_5)))))], h := [(0, .parr false a_6 (.str .nil) 1 a_7 (a_8))], nx := 1 }
def words_Join_L0_x0 (r0 : Bool) (r1 : Nat) (r2 : Nat → Nat → PV) : St := { n := 21, m := 0, t := [(3, .v (.c (.own 0)))], h := [(0, .parr false r0 (.str .nil) 1 r1 (r2))], nx := 1 }
def words_Join_L0_s0 {α : Type}  (rec0 : Bool → Nat → (Nat → Nat → PV) → Int → Int → Bool → Nat → (Nat → Nat → PV) → Option α) (k0 : Bool → Nat → (Nat → Nat → PV) → Option α) (a_1 : Bool) (a_2 : Nat) (a_3 : Nat → Nat → PV) (a_4 : Int) (a_5 : Int) (a_6 : Bool) (a_7 : Nat) (a_8 : Nat → Nat → PV) : Option α := bif decide (a_5 < a_4) then
  bif inb a_5 a_2 then
   bif !((textOf (a_3 a_5.toNat 0)).toList == (⟨#[]⟩ : ByteArray).toList) then
    bif Nat.ble ((a_7 + 1) * 16) bound then
     rec0 a_1 a_2 a_3 a_4 (IntKind.i64.wrap (a_5 + 1)) (a_6 && false) (a_7 + 1) (catf a_7 (a_8) (rowOf 1 [.val (.string (textOf (a_3 a_5.toNat 0)))]))
    else none /- test -/
   else rec0 a_1 a_2 a_3 a_4 (IntKind.i64.wrap (a_5 + 1)) a_6 a_7 a_8
  else none /- test -/
 else k0 a_6 a_7 a_8
def words_Join_L0_l0 {α : Type} (k0 : Bool → Nat → (Nat → Nat → PV) → Option α) : Nat → Bool → Nat → (Nat → Nat → PV) → Int → Int → Bool → Nat → (Nat → Nat → PV) → Option α
  | 0 => fun _ _ _ _ _ _ _ _ => none
  | n + 1 => words_Join_L0_s0  (words_Join_L0_l0 k0 n) k0
theorem words_Join_L0_s0_eq  (k : Kont) (n : Nat) (a_1 : Bool) (a_2 : Nat) (a_3 : Nat → Nat → PV) (a_4 : Int) (a_5 : Int) (a_6 : Bool) (a_7 : Nat) (a_8 : Nat → Nat → PV) : loopN (fun st k => exec (words_Join_L0_C ) (loopBody (codeAt Tryd.f18 0)) st k) [3, 6, 7, 8] (loopK 0 (kn words_Join_L0_lo k)) (n + 1) (words_Join_L0_h0 a_1 a_2 a_3 a_4 a_5 a_6 a_7 a_8) = words_Join_L0_s0  (fun a_1 a_2 a_3 a_4 a_5 a_6 a_7 a_8 => loopN (fun st k => exec (words_Join_L0_C ) (loopBody (codeAt Tryd.f18 0)) st k) [3, 6, 7, 8] (loopK 0 (kn words_Join_L0_lo k)) n (words_Join_L0_h0 a_1 a_2 a_3 a_4 a_5 a_6 a_7 a_8)) (fun r0 r1 r2 => k .normal (words_Join_L0_x0 r0 r1 r2)) a_1 a_2 a_3 a_4 a_5 a_6 a_7 a_8 := by kernel_rfl
theorem words_Join_L0_l0_eq (k : Kont) : ∀ (n : Nat) (a_1 : Bool) (a_2 : Nat) (a_3 : Nat → Nat → PV) (a_4 : Int) (a_5 : Int) (a_6 : Bool) (a_7 : Nat) (a_8 : Nat → Nat → PV), loopN (fun st k => exec (words_Join_L0_C ) (loopBody (codeAt Tryd.f18 0)) st k) [3, 6, 7, 8] (loopK 0 (kn words_Join_L0_lo k)) n (words_Join_L0_h0 a_1 a_2 a_3 a_4 a_5 a_6 a_7 a_8) = words_Join_L0_l0 (fun r0 r1 r2 => k .normal (words_Join_L0_x0 r0 r1 r2)) n a_1 a_2 a_3 a_4 a_5 a_6 a_7 a_8
  | 0, _, _, _, _, _, _, _, _ => rfl
  | n + 1, a_1, a_2, a_3, a_4, a_5, a_6, a_7, a_8 => by
    have r0 : (fun a_1 a_2 a_3 a_4 a_5 a_6 a_7 a_8 => loopN (fun st k => exec (words_Join_L0_C ) (loopBody (codeAt Tryd.f18 0)) st k) [3, 6, 7, 8] (loopK 0 (kn words_Join_L0_lo k)) n (words_Join_L0_h0 a_1 a_2 a_3 a_4 a_5 a_6 a_7 a_8)) = words_Join_L0_l0 (fun r0 r1 r2 => k .normal (words_Join_L0_x0 r0 r1 r2)) n := funext fun a_1 => funext fun a_2 => funext fun a_3 => funext fun a_4 => funext fun a_5 => funext fun a_6 => funext fun a_7 => funext fun a_8 => words_Join_L0_l0_eq k n a_1 a_2 a_3 a_4 a_5 a_6 a_7 a_8
    exact (words_Join_L0_s0_eq  k n a_1 a_2 a_3 a_4 a_5 a_6 a_7 a_8).trans (by rw [r0]; rfl)
def words_Join_L0 {α : Type} (a_1 : Bool) (a_2 : Nat) (a_3 : Nat → Nat → PV) (a_4 : Int) (a_5 : Nat → Nat → PV) (k0 : Bool → Nat → (Nat → Nat → PV) → Option α) : Option α := words_Join_L0_l0 k0 18446744073709551616 a_1 a_2 a_3 a_4 0 true 0 a_5
def words_Join_L0_e (a_1 : Bool) (a_2 : Nat) (a_3 : Nat → Nat → PV) (a_4 : Int) (a_5 : Nat → Nat → PV) : St := { n := 21, m := 0, t := [(3, .v (.c (.own 0))), (6, .v (.c (.pv (.sl a_1 (.str .nil) 1 a_2 (a_3))))), (7, .v (.c (.pv (.val (.int .i64 a_4))))), (8, .v (.c (.pv (.val (.int .i64 0)))))], h := [(0, .parr false true (.str .nil) 1 0 (a_5))], nx := 1 }
theorem words_Join_L0_eq (a_1 : Bool) (a_2 : Nat) (a_3 : Nat → Nat → PV) (a_4 : Int) (a_5 : Nat → Nat → PV) (k : Kont) : exec (words_Join_L0_C ) (codeAt Tryd.f18 0) (words_Join_L0_e a_1 a_2 a_3 a_4 a_5) (kn words_Join_L0_lo k) = words_Join_L0 a_1 a_2 a_3 a_4 a_5 (fun r0 r1 r2 => k .normal (words_Join_L0_x0 r0 r1 r2)) :=
  (by kernel_rfl : _ = loopN (fun st k => exec (words_Join_L0_C ) (loopBody (codeAt Tryd.f18 0)) st k) [3, 6, 7, 8] (loopK 0 (kn words_Join_L0_lo k)) 18446744073709551616 (words_Join_L0_h0 a_1 a_2 a_3 a_4 0 true 0 a_5)).trans (words_Join_L0_l0_eq k 18446744073709551616 a_1 a_2 a_3 a_4 0 true 0 a_5)
def words_Join_L0_p : PSt := { n := 21, m := 0, t := [(3, .v (.c (.own 0))), (6, .v (.c (.pv (.sl .h (.str .nil) 1 .h)))), (7, .v (.c (.pv (.int .i64 .h)))), (8, .v (.c (.pv (.int .i64 (.l 0)))))], h := [(0, .parr (.l false) (.l true) (.str .nil) 1 (.l 0))], nx := 1 }
def words_Join_L0_F (h : List Hole) (k : Kont) : Option Out := words_Join_L0 (gB h 0) (gN h 1) (gF h 2) (gI h 3) (gF h 4) (fun r0 r1 r2 => k .normal (words_Join_L0_x0 r0 r1 r2))
theorem words_Join_L0_at (h : List Hole) : BodyAt Tryd.prog (codeAt Tryd.f18 0) (stFill words_Join_L0_p h) (words_Join_L0_F h) := by
  have e : stFill words_Join_L0_p h = words_Join_L0_e (gB h 0) (gN h 1) (gF h 2) (gI h 3) (gF h 4) := by kernel_rfl
  rw [e]; exact bodyAt_of (C := words_Join_L0_C ) ⟨ttOk, eqOk, runS_ok ttOk eqOk mixed (names_ok namesOk) (S := words_Join_L0_S ) (sums_cons yes12_ok (sums_cons itoa_ok (sums_cons num_ok (sums_cons idx_ok (sums_cons join_ok (sums_cons split_ok (sums_nil))))))) (B := words_Join_L0_B ) (hooks_nil) opts 40⟩ mixed (hooked_in (by kernel_rfl) blk_nil 0) fun k => words_Join_L0_eq _ _ _ _ _ k
/- weirgate/weirgateref21.Join: loop 0 -/
def ref21_Join_L0_S  : List (Nat × Sm) := [(12, yes), (34, itoaSm), (13, numSm), (94, idxSm), (33, joinSm), (52, splitSm)]
def ref21_Join_L0_B  : Hooks := []
noncomputable def ref21_Join_L0_C  : Ctx := { tt := tt, eqs := has eql, call := runS tt (has eql) Tryd.prog.funcs 18446744073709551616 (ref21_Join_L0_S ) (ref21_Join_L0_B ) opts 40, fuel := 18446744073709551616, blk := fun i => aget [] i, bor := opts.bor }
def ref21_Join_L0_lo : Vx → List Nat := fun | .normal => [3] | .exit j => (fun _ => []) j | .ret => [2]
def ref21_Join_L0_h0 (a_1 : Bool) (a_2 : Nat) (a_3 : Nat → Nat → PV) (a_4 : ByteArray) (a_5 : Int) : St := { n := 27, m := 0, t := [(0, .v (.c (.pv (.sl a_1 (.str .nil) 1 a_2 (a_3))))), (3, .v (.c (.pv (.val (.string a_4))))), (4, .v (.c (.pv (.val (.int .i64 a_5)))))], h := [], nx := 0 }
def ref21_Join_L0_x0 (r0 : ByteArray) : St := { n := 27, m := 0, t := [(3, .v (.c (.pv (.val (.string r0)))))], h := [], nx := 0 }
def ref21_Join_L0_s0 {α : Type}  (rec0 : Bool → Nat → (Nat → Nat → PV) → ByteArray → Int → Option α) (k0 : ByteArray → Option α) (a_1 : Bool) (a_2 : Nat) (a_3 : Nat → Nat → PV) (a_4 : ByteArray) (a_5 : Int) : Option α := bif decide (a_5 < (a_2 : Int)) then
  bif inb a_5 a_2 then
   bif ((textOf (a_3 a_5.toNat 0)).toList == (⟨#[]⟩ : ByteArray).toList) then
    rec0 a_1 a_2 a_3 a_4 (IntKind.i64.wrap (a_5 + 1))
   else bif !(a_4.toList == (⟨#[]⟩ : ByteArray).toList) then
    bif Nat.ble (a_4.size + (⟨#[32]⟩ : ByteArray).size) 4611686018427387904 then
     bif inb a_5 a_2 then
      bif Nat.ble ((a_4 ++ (⟨#[32]⟩ : ByteArray)).size + (textOf (a_3 a_5.toNat 0)).size) 4611686018427387904 then
       rec0 a_1 a_2 a_3 ((a_4 ++ (⟨#[32]⟩ : ByteArray)) ++ (textOf (a_3 a_5.toNat 0))) (IntKind.i64.wrap (a_5 + 1))
      else none /- test -/
     else none /- test -/
    else none /- test -/
   else bif inb a_5 a_2 then
    bif Nat.ble (a_4.size + (textOf (a_3 a_5.toNat 0)).size) 4611686018427387904 then
     rec0 a_1 a_2 a_3 (a_4 ++ (textOf (a_3 a_5.toNat 0))) (IntKind.i64.wrap (a_5 + 1))
    else none /- test -/
   else none /- test -/
  else none /- test -/
 else k0 a_4
def ref21_Join_L0_l0 {α : Type} (k0 : ByteArray → Option α) : Nat → Bool → Nat → (Nat → Nat → PV) → ByteArray → Int → Option α
  | 0 => fun _ _ _ _ _ => none
  | n + 1 => ref21_Join_L0_s0  (ref21_Join_L0_l0 k0 n) k0
theorem ref21_Join_L0_s0_eq  (k : Kont) (n : Nat) (a_1 : Bool) (a_2 : Nat) (a_3 : Nat → Nat → PV) (a_4 : ByteArray) (a_5 : Int) : loopN (fun st k => exec (ref21_Join_L0_C ) (loopBody (codeAt Tryd.f19 0)) st k) [0, 3, 4] (loopK 0 (kn ref21_Join_L0_lo k)) (n + 1) (ref21_Join_L0_h0 a_1 a_2 a_3 a_4 a_5) = ref21_Join_L0_s0  (fun a_1 a_2 a_3 a_4 a_5 => loopN (fun st k => exec (ref21_Join_L0_C ) (loopBody (codeAt Tryd.f19 0)) st k) [0, 3, 4] (loopK 0 (kn ref21_Join_L0_lo k)) n (ref21_Join_L0_h0 a_1 a_2 a_3 a_4 a_5)) (fun r0 => k .normal (ref21_Join_L0_x0 r0)) a_1 a_2 a_3 a_4 a_5 := by kernel_rfl
theorem ref21_Join_L0_l0_eq (k : Kont) : ∀ (n : Nat) (a_1 : Bool) (a_2 : Nat) (a_3 : Nat → Nat → PV) (a_4 : ByteArray) (a_5 : Int), loopN (fun st k => exec (ref21_Join_L0_C ) (loopBody (codeAt Tryd.f19 0)) st k) [0, 3, 4] (loopK 0 (kn ref21_Join_L0_lo k)) n (ref21_Join_L0_h0 a_1 a_2 a_3 a_4 a_5) = ref21_Join_L0_l0 (fun r0 => k .normal (ref21_Join_L0_x0 r0)) n a_1 a_2 a_3 a_4 a_5
  | 0, _, _, _, _, _ => rfl
  | n + 1, a_1, a_2, a_3, a_4, a_5 => by
    have r0 : (fun a_1 a_2 a_3 a_4 a_5 => loopN (fun st k => exec (ref21_Join_L0_C ) (loopBody (codeAt Tryd.f19 0)) st k) [0, 3, 4] (loopK 0 (kn ref21_Join_L0_lo k)) n (ref21_Join_L0_h0 a_1 a_2 a_3 a_4 a_5)) = ref21_Join_L0_l0 (fun r0 => k .normal (ref21_Join_L0_x0 r0)) n := funext fun a_1 => funext fun a_2 => funext fun a_3 => funext fun a_4 => funext fun a_5 => ref21_Join_L0_l0_eq k n a_1 a_2 a_3 a_4 a_5
    exact (ref21_Join_L0_s0_eq  k n a_1 a_2 a_3 a_4 a_5).trans (by rw [r0]; rfl)
def ref21_Join_L0 {α : Type} (a_1 : Bool) (a_2 : Nat) (a_3 : Nat → Nat → PV) (k0 : ByteArray → Option α) : Option α := ref21_Join_L0_l0 k0 18446744073709551616 a_1 a_2 a_3 (⟨#[]⟩ : ByteArray) 0
def ref21_Join_L0_e (a_1 : Bool) (a_2 : Nat) (a_3 : Nat → Nat → PV) : St := { n := 27, m := 0, t := [(0, .v (.c (.pv (.sl a_1 (.str .nil) 1 a_2 (a_3))))), (3, .v (.c (.pv (.val (.string (⟨#[]⟩ : ByteArray)))))), (4, .v (.c (.pv (.val (.int .i64 0)))))], h := [], nx := 0 }
theorem ref21_Join_L0_eq (a_1 : Bool) (a_2 : Nat) (a_3 : Nat → Nat → PV) (k : Kont) : exec (ref21_Join_L0_C ) (codeAt Tryd.f19 0) (ref21_Join_L0_e a_1 a_2 a_3) (kn ref21_Join_L0_lo k) = ref21_Join_L0 a_1 a_2 a_3 (fun r0 => k .normal (ref21_Join_L0_x0 r0)) :=
  (by kernel_rfl : _ = loopN (fun st k => exec (ref21_Join_L0_C ) (loopBody (codeAt Tryd.f19 0)) st k) [0, 3, 4] (loopK 0 (kn ref21_Join_L0_lo k)) 18446744073709551616 (ref21_Join_L0_h0 a_1 a_2 a_3 (⟨#[]⟩ : ByteArray) 0)).trans (ref21_Join_L0_l0_eq k 18446744073709551616 a_1 a_2 a_3 (⟨#[]⟩ : ByteArray) 0)
def ref21_Join_L0_p : PSt := { n := 27, m := 0, t := [(0, .v (.c (.pv (.sl .h (.str .nil) 1 .h)))), (3, .v (.c (.pv (.strl [])))), (4, .v (.c (.pv (.int .i64 (.l 0)))))], h := [], nx := 0 }
def ref21_Join_L0_F (h : List Hole) (k : Kont) : Option Out := ref21_Join_L0 (gB h 0) (gN h 1) (gF h 2) (fun r0 => k .normal (ref21_Join_L0_x0 r0))
theorem ref21_Join_L0_at (h : List Hole) : BodyAt Tryd.prog (codeAt Tryd.f19 0) (stFill ref21_Join_L0_p h) (ref21_Join_L0_F h) := by
  have e : stFill ref21_Join_L0_p h = ref21_Join_L0_e (gB h 0) (gN h 1) (gF h 2) := by kernel_rfl
  rw [e]; exact bodyAt_of (C := ref21_Join_L0_C ) ⟨ttOk, eqOk, runS_ok ttOk eqOk mixed (names_ok namesOk) (S := ref21_Join_L0_S ) (sums_cons yes12_ok (sums_cons itoa_ok (sums_cons num_ok (sums_cons idx_ok (sums_cons join_ok (sums_cons split_ok (sums_nil))))))) (B := ref21_Join_L0_B ) (hooks_nil) opts 40⟩ mixed (hooked_in (by kernel_rfl) blk_nil 0) fun k => ref21_Join_L0_eq _ _ _ k
/- weirgate/weirgatelaw21.WordsTell -/
def law21_WordsTell_T {α : Type} (Glaw21_fair : Bool → Nat → (Nat → Nat → PV) → (Bool → Option α) → Option α) (Gref21_Num : ByteArray → (Option α) → (Int → Option α) → Option α) (Gwords_Cut_L0 : Int → (Nat → Nat → PV) → Nat → (Nat → Nat → PV) → (Bool → Nat → (Nat → Nat → PV) → Option α) → Option α) (Gref21_Cut_L0 : ByteArray → (Nat → Nat → PV) → (Bool → Nat → (Nat → Nat → PV) → Option α) → Option α) (Gkeep_Texts : Bool → Nat → (Nat → Nat → PV) → Bool → Nat → (Nat → Nat → PV) → (Option α) → (Option α) → Option α) (Gwords_Join_L0 : Bool → Nat → (Nat → Nat → PV) → Int → (Nat → Nat → PV) → (Bool → Nat → (Nat → Nat → PV) → Option α) → Option α) (Gref21_Join_L0 : Bool → Nat → (Nat → Nat → PV) → (ByteArray → Option α) → Option α) (Gref21_Text : Int → (ByteArray → Option α) → Option α) (a_1 : ByteArray) (a_2 : Bool) (a_3 : Nat) (a_4 : Nat → Nat → PV) (a_5 : Int) (k0 : Option α) (k1 : Option α) : Option α := bif decide ((a_1.size : Int) > 3000) then
  k0
 else Glaw21_fair a_2 a_3 a_4
  (fun r_6 => bif !r_6 then
   k0
  else bif Nat.ble a_1.size 281474976710656 then
   Gref21_Num a_1
    (bif splitOk a_1 (⟨#[32]⟩ : ByteArray) then
     Gwords_Cut_L0 ((splitN a_1 (⟨#[32]⟩ : ByteArray) : Nat) : Int) (fun _ _ => .val undef) (splitN a_1 (⟨#[32]⟩ : ByteArray)) (splitRow a_1 (⟨#[32]⟩ : ByteArray))
      (fun r_7 r_8 r_9 => Gref21_Cut_L0 a_1 (fun _ _ => .val undef)
       (fun r_10 r_11 r_12 => Gkeep_Texts r_7 r_8 r_9 r_10 r_11 r_12
        (k1)
        (bif Nat.ble ((0 + a_3) * 16) bound then
         Gwords_Join_L0 false (0 + a_3) (catf 0 (rowOf 1 []) (a_4)) ((0 + a_3 : Nat) : Int) (fun _ _ => .val undef)
          (fun r_13 r_14 r_15 => bif joinOk r_14 (r_15) (⟨#[32]⟩ : ByteArray) then
           Gref21_Join_L0 a_2 a_3 a_4
            (fun r_16 => bif ((joinS r_14 (r_15) (⟨#[32]⟩ : ByteArray)).toList == r_16.toList) then
             bif okI a_5 then
              Gref21_Text a_5
               (fun r_17 => bif ((itoaS a_5).toList == r_17.toList) then
                bif ((numI a_1) == 0) then
                 bif ((numOk a_1) == false) then
                  k0
                 else k1
                else k1
               else k1)
             else none /- test -/
            else k1)
          else none /- test -/)
        else none /- test -/)))
    else none /- test -/)
    (fun r_7 => bif splitOk a_1 (⟨#[32]⟩ : ByteArray) then
     Gwords_Cut_L0 ((splitN a_1 (⟨#[32]⟩ : ByteArray) : Nat) : Int) (fun _ _ => .val undef) (splitN a_1 (⟨#[32]⟩ : ByteArray)) (splitRow a_1 (⟨#[32]⟩ : ByteArray))
      (fun r_8 r_9 r_10 => Gref21_Cut_L0 a_1 (fun _ _ => .val undef)
       (fun r_11 r_12 r_13 => Gkeep_Texts r_8 r_9 r_10 r_11 r_12 r_13
        (k1)
        (bif Nat.ble ((0 + a_3) * 16) bound then
         Gwords_Join_L0 false (0 + a_3) (catf 0 (rowOf 1 []) (a_4)) ((0 + a_3 : Nat) : Int) (fun _ _ => .val undef)
          (fun r_14 r_15 r_16 => bif joinOk r_15 (r_16) (⟨#[32]⟩ : ByteArray) then
           Gref21_Join_L0 a_2 a_3 a_4
            (fun r_17 => bif ((joinS r_15 (r_16) (⟨#[32]⟩ : ByteArray)).toList == r_17.toList) then
             bif okI a_5 then
              Gref21_Text a_5
               (fun r_18 => bif ((itoaS a_5).toList == r_18.toList) then
                bif ((numI a_1) == r_7) then
                 bif ((numOk a_1) == true) then
                  k0
                 else k1
                else k1
               else k1)
             else none /- test -/
            else k1)
          else none /- test -/)
        else none /- test -/)))
    else none /- test -/)
  else none /- test -/)
def law21_WordsTell {α : Type} (a_1 : ByteArray) (a_2 : Bool) (a_3 : Nat) (a_4 : Nat → Nat → PV) (a_5 : Int) (k0 : Option α) (k1 : Option α) : Option α := law21_WordsTell_T law21_fair ref21_Num words_Cut_L0 ref21_Cut_L0 keep_Texts words_Join_L0 ref21_Join_L0 ref21_Text a_1 a_2 a_3 a_4 a_5 k0 k1
def law21_WordsTell_S (Glaw21_fair : Bool → Nat → (Nat → Nat → PV) → (Bool → Option Out) → Option Out) (Gref21_Num : ByteArray → (Option Out) → (Int → Option Out) → Option Out) (Gwords_Cut_L0 : Int → (Nat → Nat → PV) → Nat → (Nat → Nat → PV) → (Bool → Nat → (Nat → Nat → PV) → Option Out) → Option Out) (Gref21_Cut_L0 : ByteArray → (Nat → Nat → PV) → (Bool → Nat → (Nat → Nat → PV) → Option Out) → Option Out) (Gkeep_Texts : Bool → Nat → (Nat → Nat → PV) → Bool → Nat → (Nat → Nat → PV) → (Option Out) → (Option Out) → Option Out) (Gwords_Join_L0 : Bool → Nat → (Nat → Nat → PV) → Int → (Nat → Nat → PV) → (Bool → Nat → (Nat → Nat → PV) → Option Out) → Option Out) (Gref21_Join_L0 : Bool → Nat → (Nat → Nat → PV) → (ByteArray → Option Out) → Option Out) (Gref21_Text : Int → (ByteArray → Option Out) → Option Out) : List (Nat × Sm) := [(12, yes), (34, itoaSm), (13, numSm), (94, idxSm), (33, joinSm), (52, splitSm), (11, smOf [(law21_fair_p, fun h k => Glaw21_fair (gB h 0) (gN h 1) (gF h 2) (fun r0 => k (.v (.c (.pv (.val (.bool r0))))) []))]), (14, smOf [(ref21_Num_p, fun h k => Gref21_Num (gS h 0) (k (.v (.agg [.pv (.val (.int .i64 0)), .pv (.val (.bool false))])) []) (fun r0 => k (.v (.agg [.pv (.val (.int .i64 r0)), .pv (.val (.bool true))])) []))]), (15, smOf [(keep_Texts_p, fun h k => Gkeep_Texts (gB h 0) (gN h 1) (gF h 2) (gB h 3) (gN h 4) (gF h 5) (k (.v (.c (.pv (.val (.bool false))))) []) (k (.v (.c (.pv (.val (.bool true))))) []))]), (21, smOf [(ref21_Text_p, fun h k => Gref21_Text (gI h 0) (fun r0 => k (.v (.c (.pv (.val (.string r0))))) []))])]
def law21_WordsTell_B (Glaw21_fair : Bool → Nat → (Nat → Nat → PV) → (Bool → Option Out) → Option Out) (Gref21_Num : ByteArray → (Option Out) → (Int → Option Out) → Option Out) (Gwords_Cut_L0 : Int → (Nat → Nat → PV) → Nat → (Nat → Nat → PV) → (Bool → Nat → (Nat → Nat → PV) → Option Out) → Option Out) (Gref21_Cut_L0 : ByteArray → (Nat → Nat → PV) → (Bool → Nat → (Nat → Nat → PV) → Option Out) → Option Out) (Gkeep_Texts : Bool → Nat → (Nat → Nat → PV) → Bool → Nat → (Nat → Nat → PV) → (Option Out) → (Option Out) → Option Out) (Gwords_Join_L0 : Bool → Nat → (Nat → Nat → PV) → Int → (Nat → Nat → PV) → (Bool → Nat → (Nat → Nat → PV) → Option Out) → Option Out) (Gref21_Join_L0 : Bool → Nat → (Nat → Nat → PV) → (ByteArray → Option Out) → Option Out) (Gref21_Text : Int → (ByteArray → Option Out) → Option Out) : Hooks := [(16, [(0, hookG [3, 7, 8, 9] [(3, (.str .nil), 1)] (bkOf [(words_Cut_L0_p, fun h k => Gwords_Cut_L0 (gI h 0) (gF h 1) (gN h 2) (gF h 3) (fun r0 r1 r2 => k .normal (words_Cut_L0_x0 r0 r1 r2)))]))]), (17, [(0, hookG [0, 3, 4, 5] [(3, (.str .nil), 1)] (bkOf [(ref21_Cut_L0_p, fun h k => Gref21_Cut_L0 (gS h 0) (gF h 1) (fun r0 r1 r2 => k .normal (ref21_Cut_L0_x0 r0 r1 r2)))]))]), (18, [(0, hookG [3, 6, 7, 8] [(3, (.str .nil), 1)] (bkOf [(words_Join_L0_p, fun h k => Gwords_Join_L0 (gB h 0) (gN h 1) (gF h 2) (gI h 3) (gF h 4) (fun r0 r1 r2 => k .normal (words_Join_L0_x0 r0 r1 r2)))]))]), (19, [(0, hookG [0, 3, 4] [] (bkOf [(ref21_Join_L0_p, fun h k => Gref21_Join_L0 (gB h 0) (gN h 1) (gF h 2) (fun r0 => k .normal (ref21_Join_L0_x0 r0)))]))])]
theorem law21_WordsTell_eq (Glaw21_fair : Bool → Nat → (Nat → Nat → PV) → (Bool → Option Out) → Option Out) (Gref21_Num : ByteArray → (Option Out) → (Int → Option Out) → Option Out) (Gwords_Cut_L0 : Int → (Nat → Nat → PV) → Nat → (Nat → Nat → PV) → (Bool → Nat → (Nat → Nat → PV) → Option Out) → Option Out) (Gref21_Cut_L0 : ByteArray → (Nat → Nat → PV) → (Bool → Nat → (Nat → Nat → PV) → Option Out) → Option Out) (Gkeep_Texts : Bool → Nat → (Nat → Nat → PV) → Bool → Nat → (Nat → Nat → PV) → (Option Out) → (Option Out) → Option Out) (Gwords_Join_L0 : Bool → Nat → (Nat → Nat → PV) → Int → (Nat → Nat → PV) → (Bool → Nat → (Nat → Nat → PV) → Option Out) → Option Out) (Gref21_Join_L0 : Bool → Nat → (Nat → Nat → PV) → (ByteArray → Option Out) → Option Out) (Gref21_Text : Int → (ByteArray → Option Out) → Option Out) (a_1 : ByteArray) (a_2 : Bool) (a_3 : Nat) (a_4 : Nat → Nat → PV) (a_5 : Int) (k : FK) : runS tt (has eql) Tryd.prog.funcs 18446744073709551616 (law21_WordsTell_S Glaw21_fair Gref21_Num Gwords_Cut_L0 Gref21_Cut_L0 Gkeep_Texts Gwords_Join_L0 Gref21_Join_L0 Gref21_Text) (law21_WordsTell_B Glaw21_fair Gref21_Num Gwords_Cut_L0 Gref21_Cut_L0 Gkeep_Texts Gwords_Join_L0 Gref21_Join_L0 Gref21_Text) opts 40 3 [.v (.c (.pv (.val (.string a_1)))), .v (.c (.pv (.sl a_2 (.str .nil) 1 a_3 (a_4)))), .v (.c (.pv (.val (.int .i64 a_5))))] [] k = law21_WordsTell_T Glaw21_fair Gref21_Num Gwords_Cut_L0 Gref21_Cut_L0 Gkeep_Texts Gwords_Join_L0 Gref21_Join_L0 Gref21_Text a_1 a_2 a_3 a_4 a_5 (k (.v (.c (.pv (.val (.bool true))))) []) (k (.v (.c (.pv (.val (.bool false))))) []) := by kernel_rfl
def law21_WordsTell_p : PAr := ⟨[.v (.c (.pv (.str))), .v (.c (.pv (.sl .h (.str .nil) 1 .h))), .v (.c (.pv (.int .i64 .h)))], []⟩
def law21_WordsTell_F (h : List Hole) (k : FK) : Option Out := law21_WordsTell (gS h 0) (gB h 1) (gN h 2) (gF h 3) (gI h 4) (k (.v (.c (.pv (.val (.bool true))))) []) (k (.v (.c (.pv (.val (.bool false))))) [])
theorem law21_WordsTell_at (h : List Hole) : CallAt Tryd.prog 3 (arFill law21_WordsTell_p h).1 (arFill law21_WordsTell_p h).2 (law21_WordsTell_F h) := by
  have e : arFill law21_WordsTell_p h = ([.v (.c (.pv (.val (.string (gS h 0))))), .v (.c (.pv (.sl (gB h 1) (.str .nil) 1 (gN h 2) ((gF h 3))))), .v (.c (.pv (.val (.int .i64 (gI h 4)))))], []) := by kernel_rfl
  rw [e]; exact callAt_of (runS_ok ttOk eqOk mixed (names_ok namesOk) (S := law21_WordsTell_S law21_fair ref21_Num words_Cut_L0 ref21_Cut_L0 keep_Texts words_Join_L0 ref21_Join_L0 ref21_Text) (sums_cons yes12_ok (sums_cons itoa_ok (sums_cons num_ok (sums_cons idx_ok (sums_cons join_ok (sums_cons split_ok (sums_cons (smOf_ok (alts_cons law21_fair_at alts_nil)) (sums_cons (smOf_ok (alts_cons ref21_Num_at alts_nil)) (sums_cons (smOf_ok (alts_cons keep_Texts_at alts_nil)) (sums_cons (smOf_ok (alts_cons ref21_Text_at alts_nil)) (sums_nil))))))))))) (B := law21_WordsTell_B law21_fair ref21_Num words_Cut_L0 ref21_Cut_L0 keep_Texts words_Join_L0 ref21_Join_L0 ref21_Text) (hooks_add (fn := Tryd.f16) (by kernel_rfl) (by kernel_rfl) (blk_cons (bkOf_ok (blts_cons words_Cut_L0_at blts_nil)) blk_nil) (hooks_add (fn := Tryd.f17) (by kernel_rfl) (by kernel_rfl) (blk_cons (bkOf_ok (blts_cons ref21_Cut_L0_at blts_nil)) blk_nil) (hooks_add (fn := Tryd.f18) (by kernel_rfl) (by kernel_rfl) (blk_cons (bkOf_ok (blts_cons words_Join_L0_at blts_nil)) blk_nil) (hooks_add (fn := Tryd.f19) (by kernel_rfl) (by kernel_rfl) (blk_cons (bkOf_ok (blts_cons ref21_Join_L0_at blts_nil)) blk_nil) (hooks_nil))))) opts 40) fun k => law21_WordsTell_eq law21_fair ref21_Num words_Cut_L0 ref21_Cut_L0 keep_Texts words_Join_L0 ref21_Join_L0 ref21_Text _ _ _ _ _ k
theorem call_ok_WordsTell : CallSem Tryd.prog (runS tt (has eql) Tryd.prog.funcs 18446744073709551616 (law21_WordsTell_S law21_fair ref21_Num words_Cut_L0 ref21_Cut_L0 keep_Texts words_Join_L0 ref21_Join_L0 ref21_Text) (law21_WordsTell_B law21_fair ref21_Num words_Cut_L0 ref21_Cut_L0 keep_Texts words_Join_L0 ref21_Join_L0 ref21_Text) opts 40) := runS_ok ttOk eqOk mixed (names_ok namesOk) (S := law21_WordsTell_S law21_fair ref21_Num words_Cut_L0 ref21_Cut_L0 keep_Texts words_Join_L0 ref21_Join_L0 ref21_Text) (sums_cons yes12_ok (sums_cons itoa_ok (sums_cons num_ok (sums_cons idx_ok (sums_cons join_ok (sums_cons split_ok (sums_cons (smOf_ok (alts_cons law21_fair_at alts_nil)) (sums_cons (smOf_ok (alts_cons ref21_Num_at alts_nil)) (sums_cons (smOf_ok (alts_cons keep_Texts_at alts_nil)) (sums_cons (smOf_ok (alts_cons ref21_Text_at alts_nil)) (sums_nil))))))))))) (B := law21_WordsTell_B law21_fair ref21_Num words_Cut_L0 ref21_Cut_L0 keep_Texts words_Join_L0 ref21_Join_L0 ref21_Text) (hooks_add (fn := Tryd.f16) (by kernel_rfl) (by kernel_rfl) (blk_cons (bkOf_ok (blts_cons words_Cut_L0_at blts_nil)) blk_nil) (hooks_add (fn := Tryd.f17) (by kernel_rfl) (by kernel_rfl) (blk_cons (bkOf_ok (blts_cons ref21_Cut_L0_at blts_nil)) blk_nil) (hooks_add (fn := Tryd.f18) (by kernel_rfl) (by kernel_rfl) (blk_cons (bkOf_ok (blts_cons words_Join_L0_at blts_nil)) blk_nil) (hooks_add (fn := Tryd.f19) (by kernel_rfl) (by kernel_rfl) (blk_cons (bkOf_ok (blts_cons ref21_Join_L0_at blts_nil)) blk_nil) (hooks_nil))))) opts 40
theorem law_eq_WordsTell (a_1 : ByteArray) (a_2 : Bool) (a_3 : Nat) (a_4 : Nat → Nat → PV) (a_5 : Int) (k : FK) : runS tt (has eql) Tryd.prog.funcs 18446744073709551616 (law21_WordsTell_S law21_fair ref21_Num words_Cut_L0 ref21_Cut_L0 keep_Texts words_Join_L0 ref21_Join_L0 ref21_Text) (law21_WordsTell_B law21_fair ref21_Num words_Cut_L0 ref21_Cut_L0 keep_Texts words_Join_L0 ref21_Join_L0 ref21_Text) opts 40 3 [.v (.c (.pv (.val (.string a_1)))), .v (.c (.pv (.sl a_2 (.str .nil) 1 a_3 (a_4)))), .v (.c (.pv (.val (.int .i64 a_5))))] [] k = law21_WordsTell a_1 a_2 a_3 a_4 a_5 (k (.v (.c (.pv (.val (.bool true))))) []) (k (.v (.c (.pv (.val (.bool false))))) []) := law21_WordsTell_eq law21_fair ref21_Num words_Cut_L0 ref21_Cut_L0 keep_Texts words_Join_L0 ref21_Join_L0 ref21_Text a_1 a_2 a_3 a_4 a_5 k
/- weirgate/weirgatelaw21.WordsBack: loop 2 -/
def law21_WordsBack_L2_S  : List (Nat × Sm) := [(12, yes), (34, itoaSm), (13, numSm), (94, idxSm), (33, joinSm), (52, splitSm)]
def law21_WordsBack_L2_B  : Hooks := []
noncomputable def law21_WordsBack_L2_C  : Ctx := { tt := tt, eqs := has eql, call := runS tt (has eql) Tryd.prog.funcs 18446744073709551616 (law21_WordsBack_L2_S ) (law21_WordsBack_L2_B ) opts 40, fuel := 18446744073709551616, blk := fun i => aget [] i, bor := opts.bor }
def law21_WordsBack_L2_lo : Vx → List Nat := fun | .normal => [1, 2, 7, 8] | .exit j => bif Nat.beq j 1 then [1, 2, 7, 8] else bif Nat.beq j 0 then [1, 2] else [] | .ret => [6]
def law21_WordsBack_L2_h0 (a_1 : Int) (a_2 : Bool) (a_3 : Nat) (a_4 : Nat → Nat → PV) (a_5 : Int) (a_6 : Bool) (a_7 : Nat) (a_8 : Nat → Nat → PV) : St := { n := 85, m := 0, t := [(1, .v (.c (.pv (.val (.int .u32 a_1))))), (2, .v (.c (.pv (.sl a_2 (.str .nil) 1 a_3 (a_4))))), (7, .v (.c (.own 0))), (8, .v (.c (.pv (.val (.int .i64 0))))), (9, .v (.c (.pv (.val (.int .i64 a_5)))))], h := [(0, .parr false a_6 (.str .nil) 1 a_7 (a_8))], nx := 1 }
def law21_WordsBack_L2_x0  : St := { n := 85, m := 0, t := [(6, .v (.c (.pv (.val (.bool false)))))], h := [], nx := 0 }
def law21_WordsBack_L2_x1 (r0 : Int) (r1 : Bool) (r2 : Nat) (r3 : Nat → Nat → PV) (r4 : Bool) (r5 : Nat) (r6 : Nat → Nat → PV) : St := { n := 85, m := 0, t := [(1, .v (.c (.pv (.val (.int .u32 r0))))), (2, .v (.c (.pv (.sl r1 (.str .nil) 1 r2 (r3))))), (7, .v (.c (.own 0))), (8, .v (.c (.pv (.val (.int .i64 0)))))], h := [(0, .parr false r4 (.str .nil) 1 r5 (r6))], nx := 1 }
def law21_WordsBack_L2_s0 {α : Type}  (rec0 : Int → Bool → Nat → (Nat → Nat → PV) → Int → Bool → Nat → (Nat → Nat → PV) → Option α) (k0 : Option α) (k1 : Int → Bool → Nat → (Nat → Nat → PV) → Bool → Nat → (Nat → Nat → PV) → Option α) (a_1 : Int) (a_2 : Bool) (a_3 : Nat) (a_4 : Nat → Nat → PV) (a_5 : Int) (a_6 : Bool) (a_7 : Nat) (a_8 : Nat → Nat → PV) : Option α := bif inb 0 a_7 then
  bif decide (a_5 < (((textOf (a_8 0 0)).size : Nat) : Int)) then
   bif inb 0 a_7 then
    bif inb a_5 ((textOf (a_8 0 0)).size) then
     bif ((bt (textOf (a_8 0 0)) a_5) == 32) then
      k0
     else rec0 a_1 a_2 a_3 a_4 (IntKind.i64.wrap (a_5 + 1)) a_6 a_7 a_8
    else none /- test -/
   else none /- test -/
  else k1 a_1 a_2 a_3 a_4 a_6 a_7 a_8
 else none /- test -/
def law21_WordsBack_L2_l0 {α : Type} (k0 : Option α) (k1 : Int → Bool → Nat → (Nat → Nat → PV) → Bool → Nat → (Nat → Nat → PV) → Option α) : Nat → Int → Bool → Nat → (Nat → Nat → PV) → Int → Bool → Nat → (Nat → Nat → PV) → Option α
  | 0 => fun _ _ _ _ _ _ _ _ => none
  | n + 1 => law21_WordsBack_L2_s0  (law21_WordsBack_L2_l0 k0 k1 n) k0 k1
theorem law21_WordsBack_L2_s0_eq  (k : Kont) (n : Nat) (a_1 : Int) (a_2 : Bool) (a_3 : Nat) (a_4 : Nat → Nat → PV) (a_5 : Int) (a_6 : Bool) (a_7 : Nat) (a_8 : Nat → Nat → PV) : loopN (fun st k => exec (law21_WordsBack_L2_C ) (loopBody (codeAt Tryd.f4 2)) st k) [1, 2, 7, 8, 9] (loopK 2 (kn law21_WordsBack_L2_lo k)) (n + 1) (law21_WordsBack_L2_h0 a_1 a_2 a_3 a_4 a_5 a_6 a_7 a_8) = law21_WordsBack_L2_s0  (fun a_1 a_2 a_3 a_4 a_5 a_6 a_7 a_8 => loopN (fun st k => exec (law21_WordsBack_L2_C ) (loopBody (codeAt Tryd.f4 2)) st k) [1, 2, 7, 8, 9] (loopK 2 (kn law21_WordsBack_L2_lo k)) n (law21_WordsBack_L2_h0 a_1 a_2 a_3 a_4 a_5 a_6 a_7 a_8)) (k .ret (law21_WordsBack_L2_x0)) (fun r0 r1 r2 r3 r4 r5 r6 => k .normal (law21_WordsBack_L2_x1 r0 r1 r2 r3 r4 r5 r6)) a_1 a_2 a_3 a_4 a_5 a_6 a_7 a_8 := by kernel_rfl
theorem law21_WordsBack_L2_l0_eq (k : Kont) : ∀ (n : Nat) (a_1 : Int) (a_2 : Bool) (a_3 : Nat) (a_4 : Nat → Nat → PV) (a_5 : Int) (a_6 : Bool) (a_7 : Nat) (a_8 : Nat → Nat → PV), loopN (fun st k => exec (law21_WordsBack_L2_C ) (loopBody (codeAt Tryd.f4 2)) st k) [1, 2, 7, 8, 9] (loopK 2 (kn law21_WordsBack_L2_lo k)) n (law21_WordsBack_L2_h0 a_1 a_2 a_3 a_4 a_5 a_6 a_7 a_8) = law21_WordsBack_L2_l0 (k .ret (law21_WordsBack_L2_x0)) (fun r0 r1 r2 r3 r4 r5 r6 => k .normal (law21_WordsBack_L2_x1 r0 r1 r2 r3 r4 r5 r6)) n a_1 a_2 a_3 a_4 a_5 a_6 a_7 a_8
  | 0, _, _, _, _, _, _, _, _ => rfl
  | n + 1, a_1, a_2, a_3, a_4, a_5, a_6, a_7, a_8 => by
    have r0 : (fun a_1 a_2 a_3 a_4 a_5 a_6 a_7 a_8 => loopN (fun st k => exec (law21_WordsBack_L2_C ) (loopBody (codeAt Tryd.f4 2)) st k) [1, 2, 7, 8, 9] (loopK 2 (kn law21_WordsBack_L2_lo k)) n (law21_WordsBack_L2_h0 a_1 a_2 a_3 a_4 a_5 a_6 a_7 a_8)) = law21_WordsBack_L2_l0 (k .ret (law21_WordsBack_L2_x0)) (fun r0 r1 r2 r3 r4 r5 r6 => k .normal (law21_WordsBack_L2_x1 r0 r1 r2 r3 r4 r5 r6)) n := funext fun a_1 => funext fun a_2 => funext fun a_3 => funext fun a_4 => funext fun a_5 => funext fun a_6 => funext fun a_7 => funext fun a_8 => law21_WordsBack_L2_l0_eq k n a_1 a_2 a_3 a_4 a_5 a_6 a_7 a_8
    exact (law21_WordsBack_L2_s0_eq  k n a_1 a_2 a_3 a_4 a_5 a_6 a_7 a_8).trans (by rw [r0]; rfl)
def law21_WordsBack_L2 {α : Type} (a_1 : Int) (a_2 : Bool) (a_3 : Nat) (a_4 : Nat → Nat → PV) (a_5 : Bool) (a_6 : Nat) (a_7 : Nat → Nat → PV) (k0 : Option α) (k1 : Int → Bool → Nat → (Nat → Nat → PV) → Bool → Nat → (Nat → Nat → PV) → Option α) : Option α := law21_WordsBack_L2_l0 k0 k1 18446744073709551616 a_1 a_2 a_3 a_4 0 a_5 a_6 a_7
def law21_WordsBack_L2_e (a_1 : Int) (a_2 : Bool) (a_3 : Nat) (a_4 : Nat → Nat → PV) (a_5 : Bool) (a_6 : Nat) (a_7 : Nat → Nat → PV) : St := { n := 85, m := 0, t := [(1, .v (.c (.pv (.val (.int .u32 a_1))))), (2, .v (.c (.pv (.sl a_2 (.str .nil) 1 a_3 (a_4))))), (7, .v (.c (.own 0))), (8, .v (.c (.pv (.val (.int .i64 0))))), (9, .v (.c (.pv (.val (.int .i64 0)))))], h := [(0, .parr false a_5 (.str .nil) 1 a_6 (a_7))], nx := 1 }
theorem law21_WordsBack_L2_eq (a_1 : Int) (a_2 : Bool) (a_3 : Nat) (a_4 : Nat → Nat → PV) (a_5 : Bool) (a_6 : Nat) (a_7 : Nat → Nat → PV) (k : Kont) : exec (law21_WordsBack_L2_C ) (codeAt Tryd.f4 2) (law21_WordsBack_L2_e a_1 a_2 a_3 a_4 a_5 a_6 a_7) (kn law21_WordsBack_L2_lo k) = law21_WordsBack_L2 a_1 a_2 a_3 a_4 a_5 a_6 a_7 (k .ret (law21_WordsBack_L2_x0)) (fun r0 r1 r2 r3 r4 r5 r6 => k .normal (law21_WordsBack_L2_x1 r0 r1 r2 r3 r4 r5 r6)) :=
  (by kernel_rfl : _ = loopN (fun st k => exec (law21_WordsBack_L2_C ) (loopBody (codeAt Tryd.f4 2)) st k) [1, 2, 7, 8, 9] (loopK 2 (kn law21_WordsBack_L2_lo k)) 18446744073709551616 (law21_WordsBack_L2_h0 a_1 a_2 a_3 a_4 0 a_5 a_6 a_7)).trans (law21_WordsBack_L2_l0_eq k 18446744073709551616 a_1 a_2 a_3 a_4 0 a_5 a_6 a_7)
def law21_WordsBack_L2_p : PSt := { n := 85, m := 0, t := [(1, .v (.c (.pv (.int .u32 .h)))), (2, .v (.c (.pv (.sl .h (.str .nil) 1 .h)))), (7, .v (.c (.own 0))), (8, .v (.c (.pv (.int .i64 (.l 0))))), (9, .v (.c (.pv (.int .i64 (.l 0)))))], h := [(0, .parr (.l false) .h (.str .nil) 1 .h)], nx := 1 }
def law21_WordsBack_L2_F (h : List Hole) (k : Kont) : Option Out := law21_WordsBack_L2 (gI h 0) (gB h 1) (gN h 2) (gF h 3) (gB h 4) (gN h 5) (gF h 6) (k .ret (law21_WordsBack_L2_x0)) (fun r0 r1 r2 r3 r4 r5 r6 => k .normal (law21_WordsBack_L2_x1 r0 r1 r2 r3 r4 r5 r6))
theorem law21_WordsBack_L2_at (h : List Hole) : BodyAt Tryd.prog (codeAt Tryd.f4 2) (stFill law21_WordsBack_L2_p h) (law21_WordsBack_L2_F h) := by
  have e : stFill law21_WordsBack_L2_p h = law21_WordsBack_L2_e (gI h 0) (gB h 1) (gN h 2) (gF h 3) (gB h 4) (gN h 5) (gF h 6) := by kernel_rfl
  rw [e]; exact bodyAt_of (C := law21_WordsBack_L2_C ) ⟨ttOk, eqOk, runS_ok ttOk eqOk mixed (names_ok namesOk) (S := law21_WordsBack_L2_S ) (sums_cons yes12_ok (sums_cons itoa_ok (sums_cons num_ok (sums_cons idx_ok (sums_cons join_ok (sums_cons split_ok (sums_nil))))))) (B := law21_WordsBack_L2_B ) (hooks_nil) opts 40⟩ mixed (hooked_in (by kernel_rfl) blk_nil 2) fun k => law21_WordsBack_L2_eq _ _ _ _ _ _ _ k
/- weirgate/weirgatelaw21.WordsBack: loop 2 -/
def law21_WordsBack_L2_v1_S  : List (Nat × Sm) := [(12, yes), (34, itoaSm), (13, numSm), (94, idxSm), (33, joinSm), (52, splitSm)]
def law21_WordsBack_L2_v1_B  : Hooks := []
noncomputable def law21_WordsBack_L2_v1_C  : Ctx := { tt := tt, eqs := has eql, call := runS tt (has eql) Tryd.prog.funcs 18446744073709551616 (law21_WordsBack_L2_v1_S ) (law21_WordsBack_L2_v1_B ) opts 40, fuel := 18446744073709551616, blk := fun i => aget [] i, bor := opts.bor }
def law21_WordsBack_L2_v1_lo : Vx → List Nat := fun | .normal => [1, 2, 7, 8] | .exit j => bif Nat.beq j 1 then [1, 2, 7, 8] else bif Nat.beq j 0 then [1, 2] else [] | .ret => [6]
def law21_WordsBack_L2_v1_h0 (a_1 : Int) (a_2 : Bool) (a_3 : Nat) (a_4 : Nat → Nat → PV) (a_5 : Int) (a_6 : Int) (a_7 : Bool) (a_8 : Nat) (a_9 : Nat → Nat → PV) : St := { n := 85, m := 0, t := [(1, .v (.c (.pv (.val (.int .u32 a_1))))), (2, .v (.c (.pv (.sl a_2 (.str .nil) 1 a_3 (a_4))))), (7, .v (.c (.own 0))), (8, .v (.c (.pv (.val (.int .i64 a_5))))), (9, .v (.c (.pv (.val (.int .i64 a_6)))))], h := [(0, .parr false a_7 (.str .nil) 1 a_8 (a_9))], nx := 1 }
def law21_WordsBack_L2_v1_x0  : St := { n := 85, m := 0, t := [(6, .v (.c (.pv (.val (.bool false)))))], h := [], nx := 0 }
def law21_WordsBack_L2_v1_x1 (r0 : Int) (r1 : Bool) (r2 : Nat) (r3 : Nat → Nat → PV) (r4 : Int) (r5 : Bool) (r6 : Nat) (r7 : Nat → Nat → PV) : St := { n := 85, m := 0, t := [(1, .v (.c (.pv (.val (.int .u32 r0))))), (2, .v (.c (.pv (.sl r1 (.str .nil) 1 r2 (r3))))), (7, .v (.c (.own 0))), (8, .v (.c (.pv (.val (.int .i64 r4)))))], h := [(0, .parr false r5 (.str .nil) 1 r6 (r7))], nx := 1 }
def law21_WordsBack_L2_v1_s0 {α : Type}  (rec0 : Int → Bool → Nat → (Nat → Nat → PV) → Int → Int → Bool → Nat → (Nat → Nat → PV) → Option α) (k0 : Option α) (k1 : Int → Bool → Nat → (Nat → Nat → PV) → Int → Bool → Nat → (Nat → Nat → PV) → Option α) (a_1 : Int) (a_2 : Bool) (a_3 : Nat) (a_4 : Nat → Nat → PV) (a_5 : Int) (a_6 : Int) (a_7 : Bool) (a_8 : Nat) (a_9 : Nat → Nat → PV) : Option α := bif inb a_5 a_8 then
  bif decide (a_6 < (((textOf (a_9 a_5.toNat 0)).size : Nat) : Int)) then
   bif inb a_5 a_8 then
    bif inb a_6 ((textOf (a_9 a_5.toNat 0)).size) then
     bif ((bt (textOf (a_9 a_5.toNat 0)) a_6) == 32) then
      k0
     else rec0 a_1 a_2 a_3 a_4 a_5 (IntKind.i64.wrap (a_6 + 1)) a_7 a_8 a_9
    else none /- test -/
   else none /- test -/
  else k1 a_1 a_2 a_3 a_4 a_5 a_7 a_8 a_9
 else none /- test -/
def law21_WordsBack_L2_v1_l0 {α : Type} (k0 : Option α) (k1 : Int → Bool → Nat → (Nat → Nat → PV) → Int → Bool → Nat → (Nat → Nat → PV) → Option α) : Nat → Int → Bool → Nat → (Nat → Nat → PV) → Int → Int → Bool → Nat → (Nat → Nat → PV) → Option α
  | 0 => fun _ _ _ _ _ _ _ _ _ => none
  | n + 1 => law21_WordsBack_L2_v1_s0  (law21_WordsBack_L2_v1_l0 k0 k1 n) k0 k1
theorem law21_WordsBack_L2_v1_s0_eq  (k : Kont) (n : Nat) (a_1 : Int) (a_2 : Bool) (a_3 : Nat) (a_4 : Nat → Nat → PV) (a_5 : Int) (a_6 : Int) (a_7 : Bool) (a_8 : Nat) (a_9 : Nat → Nat → PV) : loopN (fun st k => exec (law21_WordsBack_L2_v1_C ) (loopBody (codeAt Tryd.f4 2)) st k) [1, 2, 7, 8, 9] (loopK 2 (kn law21_WordsBack_L2_v1_lo k)) (n + 1) (law21_WordsBack_L2_v1_h0 a_1 a_2 a_3 a_4 a_5 a_6 a_7 a_8 a_9) = law21_WordsBack_L2_v1_s0  (fun a_1 a_2 a_3 a_4 a_5 a_6 a_7 a_8 a_9 => loopN (fun st k => exec (law21_WordsBack_L2_v1_C ) (loopBody (codeAt Tryd.f4 2)) st k) [1, 2, 7, 8, 9] (loopK 2 (kn law21_WordsBack_L2_v1_lo k)) n (law21_WordsBack_L2_v1_h0 a_1 a_2 a_3 a_4 a_5 a_6 a_7 a_8 a_9)) (k .ret (law21_WordsBack_L2_v1_x0)) (fun r0 r1 r2 r3 r4 r5 r6 r7 => k .normal (law21_WordsBack_L2_v1_x1 r0 r1 r2 r3 r4 r5 r6 r7)) a_1 a_2 a_3 a_4 a_5 a_6 a_7 a_8 a_9 := by kernel_rfl
theorem law21_WordsBack_L2_v1_l0_eq (k : Kont) : ∀ (n : Nat) (a_1 : Int) (a_2 : Bool) (a_3 : Nat) (a_4 : Nat → Nat → PV) (a_5 : Int) (a_6 : Int) (a_7 : Bool) (a_8 : Nat) (a_9 : Nat → Nat → PV), loopN (fun st k => exec (law21_WordsBack_L2_v1_C ) (loopBody (codeAt Tryd.f4 2)) st k) [1, 2, 7, 8, 9] (loopK 2 (kn law21_WordsBack_L2_v1_lo k)) n (law21_WordsBack_L2_v1_h0 a_1 a_2 a_3 a_4 a_5 a_6 a_7 a_8 a_9) = law21_WordsBack_L2_v1_l0 (k .ret (law21_WordsBack_L2_v1_x0)) (fun r0 r1 r2 r3 r4 r5 r6 r7 => k .normal (law21_WordsBack_L2_v1_x1 r0 r1 r2 r3 r4 r5 r6 r7)) n a_1 a_2 a_3 a_4 a_5 a_6 a_7 a_8 a_9
  | 0, _, _, _, _, _, _, _, _, _ => rfl
  | n + 1, a_1, a_2, a_3, a_4, a_5, a_6, a_7, a_8, a_9 => by
    have r0 : (fun a_1 a_2 a_3 a_4 a_5 a_6 a_7 a_8 a_9 => loopN (fun st k => exec (law21_WordsBack_L2_v1_C ) (loopBody (codeAt Tryd.f4 2)) st k) [1, 2, 7, 8, 9] (loopK 2 (kn law21_WordsBack_L2_v1_lo k)) n (law21_WordsBack_L2_v1_h0 a_1 a_2 a_3 a_4 a_5 a_6 a_7 a_8 a_9)) = law21_WordsBack_L2_v1_l0 (k .ret (law21_WordsBack_L2_v1_x0)) (fun r0 r1 r2 r3 r4 r5 r6 r7 => k .normal (law21_WordsBack_L2_v1_x1 r0 r1 r2 r3 r4 r5 r6 r7)) n := funext fun a_1 => funext fun a_2 => funext fun a_3 => funext fun a_4 => funext fun a_5 => funext fun a_6 => funext fun a_7 => funext fun a_8 => funext fun a_9 => law21_WordsBack_L2_v1_l0_eq k n a_1 a_2 a_3 a_4 a_5 a_6 a_7 a_8 a_9
    exact (law21_WordsBack_L2_v1_s0_eq  k n a_1 a_2 a_3 a_4 a_5 a_6 a_7 a_8 a_9).trans (by rw [r0]; rfl)
def law21_WordsBack_L2_v1 {α : Type} (a_1 : Int) (a_2 : Bool) (a_3 : Nat) (a_4 : Nat → Nat → PV) (a_5 : Int) (a_6 : Bool) (a_7 : Nat) (a_8 : Nat → Nat → PV) (k0 : Option α) (k1 : Int → Bool → Nat → (Nat → Nat → PV) → Int → Bool → Nat → (Nat → Nat → PV) → Option α) : Option α := law21_WordsBack_L2_v1_l0 k0 k1 18446744073709551616 a_1 a_2 a_3 a_4 a_5 0 a_6 a_7 a_8
def law21_WordsBack_L2_v1_e (a_1 : Int) (a_2 : Bool) (a_3 : Nat) (a_4 : Nat → Nat → PV) (a_5 : Int) (a_6 : Bool) (a_7 : Nat) (a_8 : Nat → Nat → PV) : St := { n := 85, m := 0, t := [(1, .v (.c (.pv (.val (.int .u32 a_1))))), (2, .v (.c (.pv (.sl a_2 (.str .nil) 1 a_3 (a_4))))), (7, .v (.c (.own 0))), (8, .v (.c (.pv (.val (.int .i64 a_5))))), (9, .v (.c (.pv (.val (.int .i64 0)))))], h := [(0, .parr false a_6 (.str .nil) 1 a_7 (a_8))], nx := 1 }
theorem law21_WordsBack_L2_v1_eq (a_1 : Int) (a_2 : Bool) (a_3 : Nat) (a_4 : Nat → Nat → PV) (a_5 : Int) (a_6 : Bool) (a_7 : Nat) (a_8 : Nat → Nat → PV) (k : Kont) : exec (law21_WordsBack_L2_v1_C ) (codeAt Tryd.f4 2) (law21_WordsBack_L2_v1_e a_1 a_2 a_3 a_4 a_5 a_6 a_7 a_8) (kn law21_WordsBack_L2_v1_lo k) = law21_WordsBack_L2_v1 a_1 a_2 a_3 a_4 a_5 a_6 a_7 a_8 (k .ret (law21_WordsBack_L2_v1_x0)) (fun r0 r1 r2 r3 r4 r5 r6 r7 => k .normal (law21_WordsBack_L2_v1_x1 r0 r1 r2 r3 r4 r5 r6 r7)) :=
  (by kernel_rfl : _ = loopN (fun st k => exec (law21_WordsBack_L2_v1_C ) (loopBody (codeAt Tryd.f4 2)) st k) [1, 2, 7, 8, 9] (loopK 2 (kn law21_WordsBack_L2_v1_lo k)) 18446744073709551616 (law21_WordsBack_L2_v1_h0 a_1 a_2 a_3 a_4 a_5 0 a_6 a_7 a_8)).trans (law21_WordsBack_L2_v1_l0_eq k 18446744073709551616 a_1 a_2 a_3 a_4 a_5 0 a_6 a_7 a_8)
def law21_WordsBack_L2_v1_p : PSt := { n := 85, m := 0, t := [(1, .v (.c (.pv (.int .u32 .h)))), (2, .v (.c (.pv (.sl .h (.str .nil) 1 .h)))), (7, .v (.c (.own 0))), (8, .v (.c (.pv (.int .i64 .h)))), (9, .v (.c (.pv (.int .i64 (.l 0)))))], h := [(0, .parr (.l false) .h (.str .nil) 1 .h)], nx := 1 }
def law21_WordsBack_L2_v1_F (h : List Hole) (k : Kont) : Option Out := law21_WordsBack_L2_v1 (gI h 0) (gB h 1) (gN h 2) (gF h 3) (gI h 4) (gB h 5) (gN h 6) (gF h 7) (k .ret (law21_WordsBack_L2_v1_x0)) (fun r0 r1 r2 r3 r4 r5 r6 r7 => k .normal (law21_WordsBack_L2_v1_x1 r0 r1 r2 r3 r4 r5 r6 r7))
theorem law21_WordsBack_L2_v1_at (h : List Hole) : BodyAt Tryd.prog (codeAt Tryd.f4 2) (stFill law21_WordsBack_L2_v1_p h) (law21_WordsBack_L2_v1_F h) := by
  have e : stFill law21_WordsBack_L2_v1_p h = law21_WordsBack_L2_v1_e (gI h 0) (gB h 1) (gN h 2) (gF h 3) (gI h 4) (gB h 5) (gN h 6) (gF h 7) := by kernel_rfl
  rw [e]; exact bodyAt_of (C := law21_WordsBack_L2_v1_C ) ⟨ttOk, eqOk, runS_ok ttOk eqOk mixed (names_ok namesOk) (S := law21_WordsBack_L2_v1_S ) (sums_cons yes12_ok (sums_cons itoa_ok (sums_cons num_ok (sums_cons idx_ok (sums_cons join_ok (sums_cons split_ok (sums_nil))))))) (B := law21_WordsBack_L2_v1_B ) (hooks_nil) opts 40⟩ mixed (hooked_in (by kernel_rfl) blk_nil 2) fun k => law21_WordsBack_L2_v1_eq _ _ _ _ _ _ _ _ k
/- weirgate/weirgatelaw21.WordsBack: loop 0 -/
def law21_WordsBack_L0_S (Glaw21_WordsBack_L2_v1 : Int → Bool → Nat → (Nat → Nat → PV) → Int → Bool → Nat → (Nat → Nat → PV) → (Option Out) → (Int → Bool → Nat → (Nat → Nat → PV) → Int → Bool → Nat → (Nat → Nat → PV) → Option Out) → Option Out) : List (Nat × Sm) := [(12, yes), (34, itoaSm), (13, numSm), (94, idxSm), (33, joinSm), (52, splitSm)]
def law21_WordsBack_L0_B (Glaw21_WordsBack_L2_v1 : Int → Bool → Nat → (Nat → Nat → PV) → Int → Bool → Nat → (Nat → Nat → PV) → (Option Out) → (Int → Bool → Nat → (Nat → Nat → PV) → Int → Bool → Nat → (Nat → Nat → PV) → Option Out) → Option Out) : Hooks := []
noncomputable def law21_WordsBack_L0_C (Glaw21_WordsBack_L2_v1 : Int → Bool → Nat → (Nat → Nat → PV) → Int → Bool → Nat → (Nat → Nat → PV) → (Option Out) → (Int → Bool → Nat → (Nat → Nat → PV) → Int → Bool → Nat → (Nat → Nat → PV) → Option Out) → Option Out) : Ctx := { tt := tt, eqs := has eql, call := runS tt (has eql) Tryd.prog.funcs 18446744073709551616 (law21_WordsBack_L0_S Glaw21_WordsBack_L2_v1) (law21_WordsBack_L0_B Glaw21_WordsBack_L2_v1) opts 40, fuel := 18446744073709551616, blk := fun i => aget [(2, hookG [1, 2, 7, 8, 9] [] (bkOf [(law21_WordsBack_L2_v1_p, fun h k => Glaw21_WordsBack_L2_v1 (gI h 0) (gB h 1) (gN h 2) (gF h 3) (gI h 4) (gB h 5) (gN h 6) (gF h 7) (k .ret (law21_WordsBack_L2_v1_x0)) (fun r0 r1 r2 r3 r4 r5 r6 r7 => k .normal (law21_WordsBack_L2_v1_x1 r0 r1 r2 r3 r4 r5 r6 r7))), (law21_WordsBack_L2_p, law21_WordsBack_L2_F)]))] i, bor := opts.bor }
def law21_WordsBack_L0_lo : Vx → List Nat := fun | .normal => [1, 2] | .exit j => (fun _ => []) j | .ret => [6]
def law21_WordsBack_L0_h0 (a_1 : Int) (a_2 : Bool) (a_3 : Nat) (a_4 : Nat → Nat → PV) (a_5 : Int) (a_6 : Bool) (a_7 : Nat) (a_8 : Nat → Nat → PV) : St := { n := 85, m := 0, t := [(1, .v (.c (.pv (.val (.int .u32 a_1))))), (2, .v (.c (.pv (.sl a_2 (.str .nil) 1 a_3 (a_4))))), (7, .v (.c (.own 0))), (8, .v (.c (.pv (.val (.int .i64 a_5)))))], h := [(0, .parr false a_6 (.str .nil) 1 a_7 (a_8))], nx := 1 }
def law21_WordsBack_L0_x0  : St := { n := 85, m := 0, t := [(6, .v (.c (.pv (.val (.bool false)))))], h := [], nx := 0 }
def law21_WordsBack_L0_x1 (r0 : Int) (r1 : Bool) (r2 : Nat) (r3 : Nat → Nat → PV) : St := { n := 85, m := 0, t := [(1, .v (.c (.pv (.val (.int .u32 r0))))), (2, .v (.c (.pv (.sl r1 (.str .nil) 1 r2 (r3)))))], h := [], nx := 0 }
def law21_WordsBack_L0_s0 {α : Type} (Glaw21_WordsBack_L2_v1 : Int → Bool → Nat → (Nat → Nat → PV) → Int → Bool → Nat → (Nat → Nat → PV) → (Option α) → (Int → Bool → Nat → (Nat → Nat → PV) → Int → Bool → Nat → (Nat → Nat → PV) → Option α) → Option α) (rec0 : Int → Bool → Nat → (Nat → Nat → PV) → Int → Bool → Nat → (Nat → Nat → PV) → Option α) (k0 : Option α) (k1 : Int → Bool → Nat → (Nat → Nat → PV) → Option α) (a_1 : Int) (a_2 : Bool) (a_3 : Nat) (a_4 : Nat → Nat → PV) (a_5 : Int) (a_6 : Bool) (a_7 : Nat) (a_8 : Nat → Nat → PV) : Option α := bif decide (a_5 < (a_7 : Int)) then
  bif inb a_5 a_7 then
   bif ((textOf (a_8 a_5.toNat 0)).toList == (⟨#[]⟩ : ByteArray).toList) then
    k0
   else Glaw21_WordsBack_L2_v1 a_1 a_2 a_3 a_4 a_5 a_6 a_7 a_8
    (k0)
    (fun r_9 r_10 r_11 r_12 r_13 r_14 r_15 r_16 => rec0 r_9 r_10 r_11 r_12 (IntKind.i64.wrap (r_13 + 1)) r_14 r_15 r_16)
  else none /- test -/
 else k1 a_1 a_2 a_3 a_4
def law21_WordsBack_L0_l0 {α : Type} (k0 : Option α) (k1 : Int → Bool → Nat → (Nat → Nat → PV) → Option α) : Nat → Int → Bool → Nat → (Nat → Nat → PV) → Int → Bool → Nat → (Nat → Nat → PV) → Option α
  | 0 => fun _ _ _ _ _ _ _ _ => none
  | n + 1 => law21_WordsBack_L0_s0 law21_WordsBack_L2_v1 (law21_WordsBack_L0_l0 k0 k1 n) k0 k1
theorem law21_WordsBack_L0_s0_eq (Glaw21_WordsBack_L2_v1 : Int → Bool → Nat → (Nat → Nat → PV) → Int → Bool → Nat → (Nat → Nat → PV) → (Option Out) → (Int → Bool → Nat → (Nat → Nat → PV) → Int → Bool → Nat → (Nat → Nat → PV) → Option Out) → Option Out) (k : Kont) (n : Nat) (a_1 : Int) (a_2 : Bool) (a_3 : Nat) (a_4 : Nat → Nat → PV) (a_5 : Int) (a_6 : Bool) (a_7 : Nat) (a_8 : Nat → Nat → PV) : loopN (fun st k => exec (law21_WordsBack_L0_C Glaw21_WordsBack_L2_v1) (loopBody (codeAt Tryd.f4 0)) st k) [1, 2, 7, 8] (loopK 0 (kn law21_WordsBack_L0_lo k)) (n + 1) (law21_WordsBack_L0_h0 a_1 a_2 a_3 a_4 a_5 a_6 a_7 a_8) = law21_WordsBack_L0_s0 Glaw21_WordsBack_L2_v1 (fun a_1 a_2 a_3 a_4 a_5 a_6 a_7 a_8 => loopN (fun st k => exec (law21_WordsBack_L0_C Glaw21_WordsBack_L2_v1) (loopBody (codeAt Tryd.f4 0)) st k) [1, 2, 7, 8] (loopK 0 (kn law21_WordsBack_L0_lo k)) n (law21_WordsBack_L0_h0 a_1 a_2 a_3 a_4 a_5 a_6 a_7 a_8)) (k .ret (law21_WordsBack_L0_x0)) (fun r0 r1 r2 r3 => k .normal (law21_WordsBack_L0_x1 r0 r1 r2 r3)) a_1 a_2 a_3 a_4 a_5 a_6 a_7 a_8 := by kernel_rfl
theorem law21_WordsBack_L0_l0_eq (k : Kont) : ∀ (n : Nat) (a_1 : Int) (a_2 : Bool) (a_3 : Nat) (a_4 : Nat → Nat → PV) (a_5 : Int) (a_6 : Bool) (a_7 : Nat) (a_8 : Nat → Nat → PV), loopN (fun st k => exec (law21_WordsBack_L0_C law21_WordsBack_L2_v1) (loopBody (codeAt Tryd.f4 0)) st k) [1, 2, 7, 8] (loopK 0 (kn law21_WordsBack_L0_lo k)) n (law21_WordsBack_L0_h0 a_1 a_2 a_3 a_4 a_5 a_6 a_7 a_8) = law21_WordsBack_L0_l0 (k .ret (law21_WordsBack_L0_x0)) (fun r0 r1 r2 r3 => k .normal (law21_WordsBack_L0_x1 r0 r1 r2 r3)) n a_1 a_2 a_3 a_4 a_5 a_6 a_7 a_8
  | 0, _, _, _, _, _, _, _, _ => rfl
  | n + 1, a_1, a_2, a_3, a_4, a_5, a_6, a_7, a_8 => by
    have r0 : (fun a_1 a_2 a_3 a_4 a_5 a_6 a_7 a_8 => loopN (fun st k => exec (law21_WordsBack_L0_C law21_WordsBack_L2_v1) (loopBody (codeAt Tryd.f4 0)) st k) [1, 2, 7, 8] (loopK 0 (kn law21_WordsBack_L0_lo k)) n (law21_WordsBack_L0_h0 a_1 a_2 a_3 a_4 a_5 a_6 a_7 a_8)) = law21_WordsBack_L0_l0 (k .ret (law21_WordsBack_L0_x0)) (fun r0 r1 r2 r3 => k .normal (law21_WordsBack_L0_x1 r0 r1 r2 r3)) n := funext fun a_1 => funext fun a_2 => funext fun a_3 => funext fun a_4 => funext fun a_5 => funext fun a_6 => funext fun a_7 => funext fun a_8 => law21_WordsBack_L0_l0_eq k n a_1 a_2 a_3 a_4 a_5 a_6 a_7 a_8
    exact (law21_WordsBack_L0_s0_eq law21_WordsBack_L2_v1 k n a_1 a_2 a_3 a_4 a_5 a_6 a_7 a_8).trans (by rw [r0]; rfl)
def law21_WordsBack_L0 {α : Type} (a_1 : Int) (a_2 : Bool) (a_3 : Nat) (a_4 : Nat → Nat → PV) (a_5 : Bool) (a_6 : Nat) (a_7 : Nat → Nat → PV) (k0 : Option α) (k1 : Int → Bool → Nat → (Nat → Nat → PV) → Option α) : Option α := law21_WordsBack_L0_l0 k0 k1 18446744073709551616 a_1 a_2 a_3 a_4 0 a_5 a_6 a_7
def law21_WordsBack_L0_e (a_1 : Int) (a_2 : Bool) (a_3 : Nat) (a_4 : Nat → Nat → PV) (a_5 : Bool) (a_6 : Nat) (a_7 : Nat → Nat → PV) : St := { n := 85, m := 0, t := [(1, .v (.c (.pv (.val (.int .u32 a_1))))), (2, .v (.c (.pv (.sl a_2 (.str .nil) 1 a_3 (a_4))))), (7, .v (.c (.own 0))), (8, .v (.c (.pv (.val (.int .i64 0)))))], h := [(0, .parr false a_5 (.str .nil) 1 a_6 (a_7))], nx := 1 }
theorem law21_WordsBack_L0_eq (a_1 : Int) (a_2 : Bool) (a_3 : Nat) (a_4 : Nat → Nat → PV) (a_5 : Bool) (a_6 : Nat) (a_7 : Nat → Nat → PV) (k : Kont) : exec (law21_WordsBack_L0_C law21_WordsBack_L2_v1) (codeAt Tryd.f4 0) (law21_WordsBack_L0_e a_1 a_2 a_3 a_4 a_5 a_6 a_7) (kn law21_WordsBack_L0_lo k) = law21_WordsBack_L0 a_1 a_2 a_3 a_4 a_5 a_6 a_7 (k .ret (law21_WordsBack_L0_x0)) (fun r0 r1 r2 r3 => k .normal (law21_WordsBack_L0_x1 r0 r1 r2 r3)) :=
  (by kernel_rfl : _ = loopN (fun st k => exec (law21_WordsBack_L0_C law21_WordsBack_L2_v1) (loopBody (codeAt Tryd.f4 0)) st k) [1, 2, 7, 8] (loopK 0 (kn law21_WordsBack_L0_lo k)) 18446744073709551616 (law21_WordsBack_L0_h0 a_1 a_2 a_3 a_4 0 a_5 a_6 a_7)).trans (law21_WordsBack_L0_l0_eq k 18446744073709551616 a_1 a_2 a_3 a_4 0 a_5 a_6 a_7)
def law21_WordsBack_L0_p : PSt := { n := 85, m := 0, t := [(1, .v (.c (.pv (.int .u32 .h)))), (2, .v (.c (.pv (.sl .h (.str .nil) 1 .h)))), (7, .v (.c (.own 0))), (8, .v (.c (.pv (.int .i64 (.l 0)))))], h := [(0, .parr (.l false) .h (.str .nil) 1 .h)], nx := 1 }
def law21_WordsBack_L0_F (h : List Hole) (k : Kont) : Option Out := law21_WordsBack_L0 (gI h 0) (gB h 1) (gN h 2) (gF h 3) (gB h 4) (gN h 5) (gF h 6) (k .ret (law21_WordsBack_L0_x0)) (fun r0 r1 r2 r3 => k .normal (law21_WordsBack_L0_x1 r0 r1 r2 r3))
theorem law21_WordsBack_L0_at (h : List Hole) : BodyAt Tryd.prog (codeAt Tryd.f4 0) (stFill law21_WordsBack_L0_p h) (law21_WordsBack_L0_F h) := by
  have e : stFill law21_WordsBack_L0_p h = law21_WordsBack_L0_e (gI h 0) (gB h 1) (gN h 2) (gF h 3) (gB h 4) (gN h 5) (gF h 6) := by kernel_rfl
  rw [e]; exact bodyAt_of (C := law21_WordsBack_L0_C law21_WordsBack_L2_v1) ⟨ttOk, eqOk, runS_ok ttOk eqOk mixed (names_ok namesOk) (S := law21_WordsBack_L0_S law21_WordsBack_L2_v1) (sums_cons yes12_ok (sums_cons itoa_ok (sums_cons num_ok (sums_cons idx_ok (sums_cons join_ok (sums_cons split_ok (sums_nil))))))) (B := law21_WordsBack_L0_B law21_WordsBack_L2_v1) (hooks_nil) opts 40⟩ mixed (hooked_in (by kernel_rfl) (blk_cons (bkOf_ok (blts_cons law21_WordsBack_L2_v1_at (blts_cons law21_WordsBack_L2_at blts_nil))) blk_nil) 0) fun k => law21_WordsBack_L0_eq _ _ _ _ _ _ _ k
def e6 (x0 : Nat) (x1 : Nat → Nat → PV) : Nat → Nat → PV := splitRow ((joinS x0 (x1) (⟨#[32]⟩ : ByteArray)) ++ (⟨#[32, 32]⟩ : ByteArray)) (⟨#[32]⟩ : ByteArray)
def e7 (x0 : Nat) (x1 : Nat → Nat → PV) : Nat := splitN ((joinS x0 (x1) (⟨#[32]⟩ : ByteArray)) ++ (⟨#[32, 32]⟩ : ByteArray)) (⟨#[32]⟩ : ByteArray)
def e8 (x0 : Nat) (x1 : Nat → Nat → PV) (x2 : Nat) (x3 : Nat → Nat → PV) : Bool := ((joinS x0 (x1) (⟨#[32]⟩ : ByteArray)).toList == (joinS x2 (x3) (⟨#[32]⟩ : ByteArray)).toList)
/- weirgate/weirgatelaw21.WordsBack -/
def law21_WordsBack_T {α : Type} (Glaw21_fair : Bool → Nat → (Nat → Nat → PV) → (Bool → Option α) → Option α) (Gwords_Cut_L0 : Int → (Nat → Nat → PV) → Nat → (Nat → Nat → PV) → (Bool → Nat → (Nat → Nat → PV) → Option α) → Option α) (Gwords_Join_L0 : Bool → Nat → (Nat → Nat → PV) → Int → (Nat → Nat → PV) → (Bool → Nat → (Nat → Nat → PV) → Option α) → Option α) (Gkeep_Texts : Bool → Nat → (Nat → Nat → PV) → Bool → Nat → (Nat → Nat → PV) → (Option α) → (Option α) → Option α) (Glaw21_WordsBack_L0 : Int → Bool → Nat → (Nat → Nat → PV) → Bool → Nat → (Nat → Nat → PV) → (Option α) → (Int → Bool → Nat → (Nat → Nat → PV) → Option α) → Option α) (a_1 : ByteArray) (a_2 : Int) (a_3 : Bool) (a_4 : Nat) (a_5 : Nat → Nat → PV) (k0 : Option α) (k1 : Option α) : Option α := bif decide ((a_1.size : Int) > 3000) then
  k0
 else Glaw21_fair a_3 a_4 a_5
  (fun r_6 => bif !r_6 then
   k0
  else bif splitOk a_1 (⟨#[32]⟩ : ByteArray) then
   Gwords_Cut_L0 ((splitN a_1 (⟨#[32]⟩ : ByteArray) : Nat) : Int) (fun _ _ => .val undef) (splitN a_1 (⟨#[32]⟩ : ByteArray)) (splitRow a_1 (⟨#[32]⟩ : ByteArray))
    (fun r_7 r_8 r_9 => Gwords_Join_L0 r_7 r_8 r_9 (r_8 : Int) (fun _ _ => .val undef)
     (fun r_10 r_11 r_12 => bif joinOk r_11 (r_12) (⟨#[32]⟩ : ByteArray) then
      bif splitOk (joinS r_11 (r_12) (⟨#[32]⟩ : ByteArray)) (⟨#[32]⟩ : ByteArray) then
       Gwords_Cut_L0 ((splitN (joinS r_11 (r_12) (⟨#[32]⟩ : ByteArray)) (⟨#[32]⟩ : ByteArray) : Nat) : Int) (fun _ _ => .val undef) (splitN (joinS r_11 (r_12) (⟨#[32]⟩ : ByteArray)) (⟨#[32]⟩ : ByteArray)) (splitRow (joinS r_11 (r_12) (⟨#[32]⟩ : ByteArray)) (⟨#[32]⟩ : ByteArray))
        (fun r_13 r_14 r_15 => Gkeep_Texts r_13 r_14 r_15 r_7 r_8 r_9
         (k1)
         (Glaw21_WordsBack_L0 a_2 a_3 a_4 a_5 r_7 r_8 r_9
          (k1)
          (fun r_16 r_17 r_18 r_19 => bif okI (IntKind.i64.wrap r_16) then
           bif Nat.ble (itoaS (IntKind.i64.wrap r_16)).size 281474976710656 then
            bif numOk (itoaS (IntKind.i64.wrap r_16)) then
             bif ((numI (itoaS (IntKind.i64.wrap r_16))) == (IntKind.i64.wrap r_16)) then
              Gwords_Join_L0 r_17 r_18 r_19 (r_18 : Int) (fun _ _ => .val undef)
               (fun r_20 r_21 r_22 => bif joinOk r_21 (r_22) (⟨#[32]⟩ : ByteArray) then
                bif splitOk (joinS r_21 (r_22) (⟨#[32]⟩ : ByteArray)) (⟨#[32]⟩ : ByteArray) then
                 Gwords_Cut_L0 ((splitN (joinS r_21 (r_22) (⟨#[32]⟩ : ByteArray)) (⟨#[32]⟩ : ByteArray) : Nat) : Int) (fun _ _ => .val undef) (splitN (joinS r_21 (r_22) (⟨#[32]⟩ : ByteArray)) (⟨#[32]⟩ : ByteArray)) (splitRow (joinS r_21 (r_22) (⟨#[32]⟩ : ByteArray)) (⟨#[32]⟩ : ByteArray))
                  (fun r_23 r_24 r_25 => Gwords_Join_L0 r_23 r_24 r_25 (r_24 : Int) (fun _ _ => .val undef)
                   (fun r_26 r_27 r_28 => bif joinOk r_27 (r_28) (⟨#[32]⟩ : ByteArray) then
                    Gwords_Join_L0 r_17 r_18 r_19 (r_18 : Int) (fun _ _ => .val undef)
                     (fun r_29 r_30 r_31 => bif joinOk r_30 (r_31) (⟨#[32]⟩ : ByteArray) then
                      bif Nat.ble ((joinS r_30 (r_31) (⟨#[32]⟩ : ByteArray)).size + (⟨#[32, 32]⟩ : ByteArray).size) 4611686018427387904 then
                       bif splitOk ((joinS r_30 (r_31) (⟨#[32]⟩ : ByteArray)) ++ (⟨#[32, 32]⟩ : ByteArray)) (⟨#[32]⟩ : ByteArray) then
                        Gwords_Cut_L0 ((e7 r_30 r_31 : Nat) : Int) (fun _ _ => .val undef) (e7 r_30 r_31) (e6 r_30 r_31)
                         (fun r_32 r_33 r_34 => Gwords_Join_L0 r_32 r_33 r_34 (r_33 : Int) (fun _ _ => .val undef)
                          (fun r_35 r_36 r_37 => bif joinOk r_36 (r_37) (⟨#[32]⟩ : ByteArray) then
                           bif e8 r_27 r_28 r_36 r_37 then
                            k0
                           else k1
                          else none /- test -/))
                       else none /- test -/
                      else none /- test -/
                     else none /- test -/)
                   else none /- test -/))
                else none /- test -/
               else none /- test -/)
             else k1
            else k1
           else none /- test -/
          else none /- test -/)))
      else none /- test -/
     else none /- test -/))
  else none /- test -/)
def law21_WordsBack {α : Type} (a_1 : ByteArray) (a_2 : Int) (a_3 : Bool) (a_4 : Nat) (a_5 : Nat → Nat → PV) (k0 : Option α) (k1 : Option α) : Option α := law21_WordsBack_T law21_fair words_Cut_L0 words_Join_L0 keep_Texts law21_WordsBack_L0 a_1 a_2 a_3 a_4 a_5 k0 k1
def law21_WordsBack_S (Glaw21_fair : Bool → Nat → (Nat → Nat → PV) → (Bool → Option Out) → Option Out) (Gwords_Cut_L0 : Int → (Nat → Nat → PV) → Nat → (Nat → Nat → PV) → (Bool → Nat → (Nat → Nat → PV) → Option Out) → Option Out) (Gwords_Join_L0 : Bool → Nat → (Nat → Nat → PV) → Int → (Nat → Nat → PV) → (Bool → Nat → (Nat → Nat → PV) → Option Out) → Option Out) (Gkeep_Texts : Bool → Nat → (Nat → Nat → PV) → Bool → Nat → (Nat → Nat → PV) → (Option Out) → (Option Out) → Option Out) (Glaw21_WordsBack_L0 : Int → Bool → Nat → (Nat → Nat → PV) → Bool → Nat → (Nat → Nat → PV) → (Option Out) → (Int → Bool → Nat → (Nat → Nat → PV) → Option Out) → Option Out) : List (Nat × Sm) := [(12, yes), (34, itoaSm), (13, numSm), (94, idxSm), (33, joinSm), (52, splitSm), (11, smOf [(law21_fair_p, fun h k => Glaw21_fair (gB h 0) (gN h 1) (gF h 2) (fun r0 => k (.v (.c (.pv (.val (.bool r0))))) []))]), (15, smOf [(keep_Texts_p, fun h k => Gkeep_Texts (gB h 0) (gN h 1) (gF h 2) (gB h 3) (gN h 4) (gF h 5) (k (.v (.c (.pv (.val (.bool false))))) []) (k (.v (.c (.pv (.val (.bool true))))) []))])]
def law21_WordsBack_B (Glaw21_fair : Bool → Nat → (Nat → Nat → PV) → (Bool → Option Out) → Option Out) (Gwords_Cut_L0 : Int → (Nat → Nat → PV) → Nat → (Nat → Nat → PV) → (Bool → Nat → (Nat → Nat → PV) → Option Out) → Option Out) (Gwords_Join_L0 : Bool → Nat → (Nat → Nat → PV) → Int → (Nat → Nat → PV) → (Bool → Nat → (Nat → Nat → PV) → Option Out) → Option Out) (Gkeep_Texts : Bool → Nat → (Nat → Nat → PV) → Bool → Nat → (Nat → Nat → PV) → (Option Out) → (Option Out) → Option Out) (Glaw21_WordsBack_L0 : Int → Bool → Nat → (Nat → Nat → PV) → Bool → Nat → (Nat → Nat → PV) → (Option Out) → (Int → Bool → Nat → (Nat → Nat → PV) → Option Out) → Option Out) : Hooks := [(16, [(0, hookG [3, 7, 8, 9] [(3, (.str .nil), 1)] (bkOf [(words_Cut_L0_p, fun h k => Gwords_Cut_L0 (gI h 0) (gF h 1) (gN h 2) (gF h 3) (fun r0 r1 r2 => k .normal (words_Cut_L0_x0 r0 r1 r2)))]))]), (18, [(0, hookG [3, 6, 7, 8] [(3, (.str .nil), 1)] (bkOf [(words_Join_L0_p, fun h k => Gwords_Join_L0 (gB h 0) (gN h 1) (gF h 2) (gI h 3) (gF h 4) (fun r0 r1 r2 => k .normal (words_Join_L0_x0 r0 r1 r2)))]))]), (4, [(0, hookG [1, 2, 7, 8] [] (bkOf [(law21_WordsBack_L0_p, fun h k => Glaw21_WordsBack_L0 (gI h 0) (gB h 1) (gN h 2) (gF h 3) (gB h 4) (gN h 5) (gF h 6) (k .ret (law21_WordsBack_L0_x0)) (fun r0 r1 r2 r3 => k .normal (law21_WordsBack_L0_x1 r0 r1 r2 r3)))]))])]
theorem law21_WordsBack_eq (Glaw21_fair : Bool → Nat → (Nat → Nat → PV) → (Bool → Option Out) → Option Out) (Gwords_Cut_L0 : Int → (Nat → Nat → PV) → Nat → (Nat → Nat → PV) → (Bool → Nat → (Nat → Nat → PV) → Option Out) → Option Out) (Gwords_Join_L0 : Bool → Nat → (Nat → Nat → PV) → Int → (Nat → Nat → PV) → (Bool → Nat → (Nat → Nat → PV) → Option Out) → Option Out) (Gkeep_Texts : Bool → Nat → (Nat → Nat → PV) → Bool → Nat → (Nat → Nat → PV) → (Option Out) → (Option Out) → Option Out) (Glaw21_WordsBack_L0 : Int → Bool → Nat → (Nat → Nat → PV) → Bool → Nat → (Nat → Nat → PV) → (Option Out) → (Int → Bool → Nat → (Nat → Nat → PV) → Option Out) → Option Out) (a_1 : ByteArray) (a_2 : Int) (a_3 : Bool) (a_4 : Nat) (a_5 : Nat → Nat → PV) (k : FK) : runS tt (has eql) Tryd.prog.funcs 18446744073709551616 (law21_WordsBack_S Glaw21_fair Gwords_Cut_L0 Gwords_Join_L0 Gkeep_Texts Glaw21_WordsBack_L0) (law21_WordsBack_B Glaw21_fair Gwords_Cut_L0 Gwords_Join_L0 Gkeep_Texts Glaw21_WordsBack_L0) opts 40 4 [.v (.c (.pv (.val (.string a_1)))), .v (.c (.pv (.val (.int .u32 a_2)))), .v (.c (.pv (.sl a_3 (.str .nil) 1 a_4 (a_5))))] [] k = law21_WordsBack_T Glaw21_fair Gwords_Cut_L0 Gwords_Join_L0 Gkeep_Texts Glaw21_WordsBack_L0 a_1 a_2 a_3 a_4 a_5 (k (.v (.c (.pv (.val (.bool true))))) []) (k (.v (.c (.pv (.val (.bool false))))) []) := by kernel_rfl
def law21_WordsBack_p : PAr := ⟨[.v (.c (.pv (.str))), .v (.c (.pv (.int .u32 .h))), .v (.c (.pv (.sl .h (.str .nil) 1 .h)))], []⟩
def law21_WordsBack_F (h : List Hole) (k : FK) : Option Out := law21_WordsBack (gS h 0) (gI h 1) (gB h 2) (gN h 3) (gF h 4) (k (.v (.c (.pv (.val (.bool true))))) []) (k (.v (.c (.pv (.val (.bool false))))) [])
theorem law21_WordsBack_at (h : List Hole) : CallAt Tryd.prog 4 (arFill law21_WordsBack_p h).1 (arFill law21_WordsBack_p h).2 (law21_WordsBack_F h) := by
  have e : arFill law21_WordsBack_p h = ([.v (.c (.pv (.val (.string (gS h 0))))), .v (.c (.pv (.val (.int .u32 (gI h 1))))), .v (.c (.pv (.sl (gB h 2) (.str .nil) 1 (gN h 3) ((gF h 4)))))], []) := by kernel_rfl
  rw [e]; exact callAt_of (runS_ok ttOk eqOk mixed (names_ok namesOk) (S := law21_WordsBack_S law21_fair words_Cut_L0 words_Join_L0 keep_Texts law21_WordsBack_L0) (sums_cons yes12_ok (sums_cons itoa_ok (sums_cons num_ok (sums_cons idx_ok (sums_cons join_ok (sums_cons split_ok (sums_cons (smOf_ok (alts_cons law21_fair_at alts_nil)) (sums_cons (smOf_ok (alts_cons keep_Texts_at alts_nil)) (sums_nil))))))))) (B := law21_WordsBack_B law21_fair words_Cut_L0 words_Join_L0 keep_Texts law21_WordsBack_L0) (hooks_add (fn := Tryd.f16) (by kernel_rfl) (by kernel_rfl) (blk_cons (bkOf_ok (blts_cons words_Cut_L0_at blts_nil)) blk_nil) (hooks_add (fn := Tryd.f18) (by kernel_rfl) (by kernel_rfl) (blk_cons (bkOf_ok (blts_cons words_Join_L0_at blts_nil)) blk_nil) (hooks_add (fn := Tryd.f4) (by kernel_rfl) (by kernel_rfl) (blk_cons (bkOf_ok (blts_cons law21_WordsBack_L0_at blts_nil)) blk_nil) (hooks_nil)))) opts 40) fun k => law21_WordsBack_eq law21_fair words_Cut_L0 words_Join_L0 keep_Texts law21_WordsBack_L0 _ _ _ _ _ k
theorem call_ok_WordsBack : CallSem Tryd.prog (runS tt (has eql) Tryd.prog.funcs 18446744073709551616 (law21_WordsBack_S law21_fair words_Cut_L0 words_Join_L0 keep_Texts law21_WordsBack_L0) (law21_WordsBack_B law21_fair words_Cut_L0 words_Join_L0 keep_Texts law21_WordsBack_L0) opts 40) := runS_ok ttOk eqOk mixed (names_ok namesOk) (S := law21_WordsBack_S law21_fair words_Cut_L0 words_Join_L0 keep_Texts law21_WordsBack_L0) (sums_cons yes12_ok (sums_cons itoa_ok (sums_cons num_ok (sums_cons idx_ok (sums_cons join_ok (sums_cons split_ok (sums_cons (smOf_ok (alts_cons law21_fair_at alts_nil)) (sums_cons (smOf_ok (alts_cons keep_Texts_at alts_nil)) (sums_nil))))))))) (B := law21_WordsBack_B law21_fair words_Cut_L0 words_Join_L0 keep_Texts law21_WordsBack_L0) (hooks_add (fn := Tryd.f16) (by kernel_rfl) (by kernel_rfl) (blk_cons (bkOf_ok (blts_cons words_Cut_L0_at blts_nil)) blk_nil) (hooks_add (fn := Tryd.f18) (by kernel_rfl) (by kernel_rfl) (blk_cons (bkOf_ok (blts_cons words_Join_L0_at blts_nil)) blk_nil) (hooks_add (fn := Tryd.f4) (by kernel_rfl) (by kernel_rfl) (blk_cons (bkOf_ok (blts_cons law21_WordsBack_L0_at blts_nil)) blk_nil) (hooks_nil)))) opts 40
theorem law_eq_WordsBack (a_1 : ByteArray) (a_2 : Int) (a_3 : Bool) (a_4 : Nat) (a_5 : Nat → Nat → PV) (k : FK) : runS tt (has eql) Tryd.prog.funcs 18446744073709551616 (law21_WordsBack_S law21_fair words_Cut_L0 words_Join_L0 keep_Texts law21_WordsBack_L0) (law21_WordsBack_B law21_fair words_Cut_L0 words_Join_L0 keep_Texts law21_WordsBack_L0) opts 40 4 [.v (.c (.pv (.val (.string a_1)))), .v (.c (.pv (.val (.int .u32 a_2)))), .v (.c (.pv (.sl a_3 (.str .nil) 1 a_4 (a_5))))] [] k = law21_WordsBack a_1 a_2 a_3 a_4 a_5 (k (.v (.c (.pv (.val (.bool true))))) []) (k (.v (.c (.pv (.val (.bool false))))) []) := law21_WordsBack_eq law21_fair words_Cut_L0 words_Join_L0 keep_Texts law21_WordsBack_L0 a_1 a_2 a_3 a_4 a_5 k
def e9 (x0 : Int) : Bool := !((numOk (itoaS (IntKind.i64.wrap (x0.tmod 1099511627776)))) == (decide ((IntKind.i64.wrap (x0.tmod 1099511627776)) < 4294967296)))
def e10 (x0 : Int) : Bool := ((numI (itoaS (IntKind.i64.wrap (x0.tmod 1099511627776)))) != (IntKind.i64.wrap (x0.tmod 1099511627776)))
/- weirgate/weirgatelaw21.WordsNums -/
def law21_WordsNums_T {α : Type}  (a_1 : Int) (a_2 : ByteArray) (k0 : Option α) (k1 : Option α) : Option α := bif decide ((a_2.size : Int) > 3000) then
  k0
 else bif okI (IntKind.i64.wrap (a_1.tmod 1099511627776)) then
  bif Nat.ble (itoaS (IntKind.i64.wrap (a_1.tmod 1099511627776))).size 281474976710656 then
   bif e9 a_1 then
    k1
   else bif numOk (itoaS (IntKind.i64.wrap (a_1.tmod 1099511627776))) then
    bif e10 a_1 then
     k1
    else bif Nat.ble ((⟨#[48]⟩ : ByteArray).size + (itoaS (IntKind.i64.wrap (a_1.tmod 1099511627776))).size) 4611686018427387904 then
     bif Nat.ble ((⟨#[48]⟩ : ByteArray) ++ (itoaS (IntKind.i64.wrap (a_1.tmod 1099511627776)))).size 281474976710656 then
      bif Nat.ble ((⟨#[45]⟩ : ByteArray).size + (itoaS (IntKind.i64.wrap (a_1.tmod 1099511627776))).size) 4611686018427387904 then
       bif Nat.ble ((⟨#[45]⟩ : ByteArray) ++ (itoaS (IntKind.i64.wrap (a_1.tmod 1099511627776)))).size 281474976710656 then
        bif Nat.ble ((itoaS (IntKind.i64.wrap (a_1.tmod 1099511627776))).size + (⟨#[32]⟩ : ByteArray).size) 4611686018427387904 then
         bif Nat.ble ((itoaS (IntKind.i64.wrap (a_1.tmod 1099511627776))) ++ (⟨#[32]⟩ : ByteArray)).size 281474976710656 then
          bif Nat.ble ((⟨#[43]⟩ : ByteArray).size + (itoaS (IntKind.i64.wrap (a_1.tmod 1099511627776))).size) 4611686018427387904 then
           bif Nat.ble ((⟨#[43]⟩ : ByteArray) ++ (itoaS (IntKind.i64.wrap (a_1.tmod 1099511627776)))).size 281474976710656 then
            bif numOk ((⟨#[48]⟩ : ByteArray) ++ (itoaS (IntKind.i64.wrap (a_1.tmod 1099511627776)))) then
             k1
            else bif numOk ((⟨#[45]⟩ : ByteArray) ++ (itoaS (IntKind.i64.wrap (a_1.tmod 1099511627776)))) then
             k1
            else bif numOk ((itoaS (IntKind.i64.wrap (a_1.tmod 1099511627776))) ++ (⟨#[32]⟩ : ByteArray)) then
             k1
            else bif numOk ((⟨#[43]⟩ : ByteArray) ++ (itoaS (IntKind.i64.wrap (a_1.tmod 1099511627776)))) then
             k1
            else bif Nat.ble a_2.size 281474976710656 then
             bif !(numOk a_2) then
              k0
             else bif okI (numI a_2) then
              bif ((itoaS (numI a_2)).toList == a_2.toList) then
               bif decide ((numI a_2) ≥ 0) then
                bif decide ((numI a_2) < 4294967296) then
                 k0
                else k1
               else k1
              else k1
             else none /- test -/
            else none /- test -/
           else none /- test -/
          else none /- test -/
         else none /- test -/
        else none /- test -/
       else none /- test -/
      else none /- test -/
     else none /- test -/
    else none /- test -/
   else bif Nat.ble ((⟨#[48]⟩ : ByteArray).size + (itoaS (IntKind.i64.wrap (a_1.tmod 1099511627776))).size) 4611686018427387904 then
    bif Nat.ble ((⟨#[48]⟩ : ByteArray) ++ (itoaS (IntKind.i64.wrap (a_1.tmod 1099511627776)))).size 281474976710656 then
     bif Nat.ble ((⟨#[45]⟩ : ByteArray).size + (itoaS (IntKind.i64.wrap (a_1.tmod 1099511627776))).size) 4611686018427387904 then
      bif Nat.ble ((⟨#[45]⟩ : ByteArray) ++ (itoaS (IntKind.i64.wrap (a_1.tmod 1099511627776)))).size 281474976710656 then
       bif Nat.ble ((itoaS (IntKind.i64.wrap (a_1.tmod 1099511627776))).size + (⟨#[32]⟩ : ByteArray).size) 4611686018427387904 then
        bif Nat.ble ((itoaS (IntKind.i64.wrap (a_1.tmod 1099511627776))) ++ (⟨#[32]⟩ : ByteArray)).size 281474976710656 then
         bif Nat.ble ((⟨#[43]⟩ : ByteArray).size + (itoaS (IntKind.i64.wrap (a_1.tmod 1099511627776))).size) 4611686018427387904 then
          bif Nat.ble ((⟨#[43]⟩ : ByteArray) ++ (itoaS (IntKind.i64.wrap (a_1.tmod 1099511627776)))).size 281474976710656 then
           bif numOk ((⟨#[48]⟩ : ByteArray) ++ (itoaS (IntKind.i64.wrap (a_1.tmod 1099511627776)))) then
            k1
           else bif numOk ((⟨#[45]⟩ : ByteArray) ++ (itoaS (IntKind.i64.wrap (a_1.tmod 1099511627776)))) then
            k1
           else bif numOk ((itoaS (IntKind.i64.wrap (a_1.tmod 1099511627776))) ++ (⟨#[32]⟩ : ByteArray)) then
            k1
           else bif numOk ((⟨#[43]⟩ : ByteArray) ++ (itoaS (IntKind.i64.wrap (a_1.tmod 1099511627776)))) then
            k1
           else bif Nat.ble a_2.size 281474976710656 then
            bif !(numOk a_2) then
             k0
            else bif okI (numI a_2) then
             bif ((itoaS (numI a_2)).toList == a_2.toList) then
              bif decide ((numI a_2) ≥ 0) then
               bif decide ((numI a_2) < 4294967296) then
                k0
               else k1
              else k1
             else k1
            else none /- test -/
           else none /- test -/
          else none /- test -/
         else none /- test -/
        else none /- test -/
       else none /- test -/
      else none /- test -/
     else none /- test -/
    else none /- test -/
   else none /- test -/
  else none /- test -/
 else none /- test -/
def law21_WordsNums {α : Type} (a_1 : Int) (a_2 : ByteArray) (k0 : Option α) (k1 : Option α) : Option α := law21_WordsNums_T  a_1 a_2 k0 k1
def law21_WordsNums_S  : List (Nat × Sm) := [(12, yes), (34, itoaSm), (13, numSm), (94, idxSm), (33, joinSm), (52, splitSm)]
def law21_WordsNums_B  : Hooks := []
theorem law21_WordsNums_eq  (a_1 : Int) (a_2 : ByteArray) (k : FK) : runS tt (has eql) Tryd.prog.funcs 18446744073709551616 (law21_WordsNums_S ) (law21_WordsNums_B ) opts 40 5 [.v (.c (.pv (.val (.int .u64 a_1)))), .v (.c (.pv (.val (.string a_2))))] [] k = law21_WordsNums_T  a_1 a_2 (k (.v (.c (.pv (.val (.bool true))))) []) (k (.v (.c (.pv (.val (.bool false))))) []) := by kernel_rfl
def law21_WordsNums_p : PAr := ⟨[.v (.c (.pv (.int .u64 .h))), .v (.c (.pv (.str)))], []⟩
def law21_WordsNums_F (h : List Hole) (k : FK) : Option Out := law21_WordsNums (gI h 0) (gS h 1) (k (.v (.c (.pv (.val (.bool true))))) []) (k (.v (.c (.pv (.val (.bool false))))) [])
theorem law21_WordsNums_at (h : List Hole) : CallAt Tryd.prog 5 (arFill law21_WordsNums_p h).1 (arFill law21_WordsNums_p h).2 (law21_WordsNums_F h) := by
  have e : arFill law21_WordsNums_p h = ([.v (.c (.pv (.val (.int .u64 (gI h 0))))), .v (.c (.pv (.val (.string (gS h 1)))))], []) := by kernel_rfl
  rw [e]; exact callAt_of (runS_ok ttOk eqOk mixed (names_ok namesOk) (S := law21_WordsNums_S ) (sums_cons yes12_ok (sums_cons itoa_ok (sums_cons num_ok (sums_cons idx_ok (sums_cons join_ok (sums_cons split_ok (sums_nil))))))) (B := law21_WordsNums_B ) (hooks_nil) opts 40) fun k => law21_WordsNums_eq  _ _ k
theorem call_ok_WordsNums : CallSem Tryd.prog (runS tt (has eql) Tryd.prog.funcs 18446744073709551616 (law21_WordsNums_S ) (law21_WordsNums_B ) opts 40) := runS_ok ttOk eqOk mixed (names_ok namesOk) (S := law21_WordsNums_S ) (sums_cons yes12_ok (sums_cons itoa_ok (sums_cons num_ok (sums_cons idx_ok (sums_cons join_ok (sums_cons split_ok (sums_nil))))))) (B := law21_WordsNums_B ) (hooks_nil) opts 40
theorem law_eq_WordsNums (a_1 : Int) (a_2 : ByteArray) (k : FK) : runS tt (has eql) Tryd.prog.funcs 18446744073709551616 (law21_WordsNums_S ) (law21_WordsNums_B ) opts 40 5 [.v (.c (.pv (.val (.int .u64 a_1)))), .v (.c (.pv (.val (.string a_2))))] [] k = law21_WordsNums a_1 a_2 (k (.v (.c (.pv (.val (.bool true))))) []) (k (.v (.c (.pv (.val (.bool false))))) []) := law21_WordsNums_eq  a_1 a_2 k
end Go.Proofs.YtijabmpcicddbaaDoor.Words

/- ParseTexts: the code of the law and of all that it calls, told by functions over numbers and rows. WRITTEN BY gen.py. -/
import Derived.Test.YtijabmpcicddbaaDoorHand
set_option linter.unusedVariables false
namespace Go.Proofs.YtijabmpcicddbaaDoor.ParseTexts
open Go.Ve
set_option maxRecDepth 100000
abbrev Y1 (α : Type) : Type := Int → Int → Int → Int → Int → Int → Int → Int → Int → Int → Int → Int → Int → Int → Int → Int → Int → Int → ByteArray → (Nat → Nat → PV) → (Nat → Nat → PV) → Bool → Nat → (Nat → Nat → PV) → (Int → Int → Int → Int → Int → Int → Int → Int → Int → Int → Int → Int → Int → Int → Int → Int → Int → ByteArray → Bool → Nat → (Nat → Nat → PV) → (Nat → Nat → PV) → Option α) → Option α
abbrev Y2 (α : Type) : Type := Int → Bool → Nat → (Nat → Nat → PV) → Bool → Nat → (Nat → Nat → PV) → Int → Int → Int → Int → Int → Int → Int → Int → (Bool → Nat → (Nat → Nat → PV) → Option α) → (Bool → Nat → (Nat → Nat → PV) → Int → Int → Int → Int → Int → Int → Int → Int → Option α) → Option α
abbrev Y3 (α : Type) : Type := Int → Int → Int → Int → Int → Int → Int → Int → ByteArray → Bool → Nat → (Nat → Nat → PV) → (Bool → Nat → (Nat → Nat → PV) → Option α) → (Int → Int → Int → Int → Int → Int → Int → Int → Bool → Nat → (Nat → Nat → PV) → Option α) → Option α
abbrev Y4 (α : Type) : Type := Int → Bool → Nat → (Nat → Nat → PV) → (Nat → Nat → PV) → (Nat → Nat → PV) → (Int → Int → Bool → Bool → Nat → (Nat → Nat → PV) → (Nat → Nat → PV) → Bool → Nat → (Nat → Nat → PV) → Option α) → Option α
abbrev Y5 (α : Type) : Type := Int → Int → Int → Int → Int → Int → Int → Int → Int → Int → Int → Int → Int → Int → Int → Int → Int → ByteArray → Bool → Nat → (Nat → Nat → PV) → (Nat → Nat → PV) → Option α
abbrev Y6 (α : Type) : Type := Int → Int → Int → Int → Int → Int → Int → Int → Int → Int → Int → Int → Int → Int → Int → Int → ByteArray → Bool → Nat → (Nat → Nat → PV) → (Nat → Nat → PV) → Option α
abbrev Y7 (α : Type) : Type := Int → Int → Bool → Nat → (Nat → Nat → PV) → (Int → Int → Int → Int → Int → Int → Int → Int → Bool → Bool → Nat → (Nat → Nat → PV) → Option α) → Option α
abbrev Y8 (α : Type) : Type := ByteArray → ByteArray → Int → Int → Int → Int → Int → Int → Int → Int → (Bool → Int → Int → Int → Int → Int → Int → Int → Int → Option α) → Option α
abbrev Y9 (α : Type) : Type := Int → Bool → Nat → (Nat → Nat → PV) → (Int → Bool → Nat → (Nat → Nat → PV) → Option α) → (Bool → Nat → (Nat → Nat → PV) → Option α) → Option α
abbrev Y10 (α : Type) : Type := Int → (Nat → Nat → PV) → Nat → (Nat → Nat → PV) → (Option α) → (Bool → Nat → (Nat → Nat → PV) → Option α) → Option α
abbrev Y11 (α : Type) : Type := Int → Int → Int → Int → Int → Int → Int → Int → (Nat → Nat → PV) → (ByteArray → Option α) → (Option α) → Option α
abbrev Y12 (α : Type) : Type := Int → Int → Bool → Bool → Nat → (Nat → Nat → PV) → (Nat → Nat → PV) → Bool → Nat → (Nat → Nat → PV) → Option α
abbrev Y13 (α : Type) : Type := Int → (Nat → Nat → PV) → Nat → (Nat → Nat → PV) → (Bool → Nat → (Nat → Nat → PV) → Option α) → Option α
abbrev Y14 (α : Type) : Type := Int → Bool → Bool → Nat → (Nat → Nat → PV) → (Nat → Nat → PV) → Bool → Nat → (Nat → Nat → PV) → Option α
abbrev Y15 (α : Type) : Type := Int → Int → Int → Int → Int → Int → Int → Int → ByteArray → (ByteArray → Option α) → Option α
abbrev Y16 (α : Type) : Type := Bool → Nat → (Nat → Nat → PV) → (Int → Bool → Nat → (Nat → Nat → PV) → Option α) → Option α
abbrev Y17 (α : Type) : Type := Int → Int → Int → Int → Int → Int → Int → Int → Bool → Bool → Nat → (Nat → Nat → PV) → Option α
abbrev Y18 (α : Type) : Type := Bool → Nat → (Nat → Nat → PV) → Int → Int → Int → Int → Int → Int → Int → Int → Option α
abbrev Y19 (α : Type) : Type := Int → Int → Int → Int → Int → Int → Int → Int → Bool → Nat → (Nat → Nat → PV) → Option α
abbrev Y20 (α : Type) : Type := ByteArray → Int → Int → Int → Int → Int → Int → Int → Int → (Nat → Nat → PV) → Option α
abbrev Y21 (α : Type) : Type := ByteArray → Int → Int → (ByteArray → Int → Int → Int → Option α) → Option α
abbrev Y22 (α : Type) : Type := Int → Int → Bool → Nat → (Nat → Nat → PV) → Nat → (Nat → Nat → PV) → Option α
abbrev Y23 (α : Type) : Type := ByteArray → (Int → Bool → Option α) → (Int → Option α) → Option α
abbrev Y24 (α : Type) : Type := ByteArray → (Option α) → (ByteArray → Int → Option α) → Option α
abbrev Y25 (α : Type) : Type := Bool → Nat → (Nat → Nat → PV) → Int → (Int → Option α) → Option α
abbrev Y26 (α : Type) : Type := Bool → Nat → (Nat → Nat → PV) → (Int → Int → Option α) → Option α
abbrev Y27 (α : Type) : Type := Bool → Nat → (Nat → Nat → PV) → (ByteArray → Option α) → Option α
abbrev Y28 (α : Type) : Type := Bool → Int → Int → Int → Int → Int → Int → Int → Int → Option α
abbrev Y29 (α : Type) : Type := ByteArray → (Option α) → (Int → Option α) → Option α
abbrev Y30 (α : Type) : Type := Int → Int → Int → Int → Int → Int → Int → Int → Option α
abbrev Y31 (α : Type) : Type := Int → Int → (Int → ByteArray → Option α) → Option α
abbrev Y32 (α : Type) : Type := ByteArray → (Int → Int → Option α) → Option α
abbrev Y33 (α : Type) : Type := Int → Bool → Nat → (Nat → Nat → PV) → Option α
abbrev Y34 (α : Type) : Type := Int → (ByteArray → Option α) → Option α
abbrev Y35 (α : Type) : Type := Bool → Nat → (Nat → Nat → PV) → Option α
abbrev Y36 (α : Type) : Type := ByteArray → Int → Int → Int → Option α
abbrev Y37 (α : Type) : Type := ByteArray → Int → Int → Option α
abbrev Y38 (α : Type) : Type := Int → ByteArray → Option α
abbrev Y39 (α : Type) : Type := ByteArray → Int → Option α
theorem wakes_eq22 (k : AV → List AObj → Option Out) : runS tt (has eql) Tryd.prog.funcs 100000 [(34, itoaSm), (13, numSm), (94, idxSm), (33, joinSm), (52, splitSm)] [] opts 40 22 [] [] k = k (.b true) [] := by kernel_rfl
theorem yes22_ok : SumOk Tryd.prog 22 yes := SumOk.yes (runS_ok ttOk eqOk mixed (names_ok namesOk) (S := [(34, itoaSm), (13, numSm), (94, idxSm), (33, joinSm), (52, splitSm)]) (sums_cons itoa_ok (sums_cons num_ok (sums_cons idx_ok (sums_cons join_ok (sums_cons split_ok (sums_nil)))))) hooks_nil opts 40) wakes_eq22
def e1 : Nat → Nat → PV := rowOf 9 [.val (.int .i64 1), .val (.int .i64 1), .val (.int .i64 0), .val (.int .i64 0), .val (.int .i64 0), .val (.int .u8 0), .val (.int .u8 0), .val (.int .u64 0), .val (.string (⟨#[112, 114, 105, 111, 114, 105, 116, 121, 32, 78]⟩ : ByteArray)), .val (.int .i64 1), .val (.int .i64 2), .val (.int .i64 0), .val (.int .i64 0), .val (.int .i64 0), .val (.int .u8 0), .val (.int .u8 0), .val (.int .u64 0), .val (.string (⟨#[97, 103, 101, 32, 78]⟩ : ByteArray)), .val (.int .i64 1), .val (.int .i64 3), .val (.int .i64 0), .val (.int .i64 0), .val (.int .i64 0), .val (.int .u8 0), .val (.int .u8 0), .val (.int .u64 0), .val (.string (⟨#[100, 101, 108, 97, 121, 32, 78]⟩ : ByteArray)), .val (.int .i64 1), .val (.int .i64 4), .val (.int .i64 0), .val (.int .i64 1), .val (.int .i64 0), .val (.int .u8 0), .val (.int .u8 0), .val (.int .u64 0), .val (.string (⟨#[112, 111, 114, 116, 32, 80, 32, 117, 112]⟩ : ByteArray)), .val (.int .i64 1), .val (.int .i64 4), .val (.int .i64 0), .val (.int .i64 0), .val (.int .i64 0), .val (.int .u8 0), .val (.int .u8 0), .val (.int .u64 0), .val (.string (⟨#[112, 111, 114, 116, 32, 80, 32, 100, 111, 119, 110]⟩ : ByteArray)), .val (.int .i64 1), .val (.int .i64 5), .val (.int .i64 0), .val (.int .i64 0), .val (.int .i64 0), .val (.int .u8 0), .val (.int .u8 0), .val (.int .u64 0), .val (.string (⟨#[112, 111, 114, 116, 32, 80, 32, 99, 111, 115, 116, 32, 78]⟩ : ByteArray)), .val (.int .i64 1), .val (.int .i64 6), .val (.int .i64 0), .val (.int .i64 0), .val (.int .i64 0), .val (.int .u8 0), .val (.int .u8 0), .val (.int .u64 0), .val (.string (⟨#[112, 111, 114, 116, 32, 80, 32, 112, 118, 105, 100, 32, 78]⟩ : ByteArray)), .val (.int .i64 1), .val (.int .i64 7), .val (.int .i64 0), .val (.int .i64 0), .val (.int .i64 0), .val (.int .u8 0), .val (.int .u8 0), .val (.int .u64 0), .val (.string (⟨#[118, 108, 97, 110, 32, 86, 32, 109, 101, 109, 98, 101, 114, 115, 32, 77, 32, 116, 97, 103, 103, 101, 100, 32, 84]⟩ : ByteArray)), .val (.int .i64 1), .val (.int .i64 8), .val (.int .i64 0), .val (.int .i64 0), .val (.int .i64 0), .val (.int .u8 0), .val (.int .u8 0), .val (.int .u64 0), .val (.string (⟨#[110, 111, 32, 118, 108, 97, 110, 32, 86]⟩ : ByteArray)), .val (.int .i64 1), .val (.int .i64 9), .val (.int .i64 0), .val (.int .i64 0), .val (.int .i64 0), .val (.int .u8 0), .val (.int .u8 0), .val (.int .u64 0), .val (.string (⟨#[115, 116, 97, 116, 105, 99, 32, 65, 32, 118, 108, 97, 110, 32, 86, 32, 112, 111, 114, 116, 32, 80]⟩ : ByteArray)), .val (.int .i64 1), .val (.int .i64 10), .val (.int .i64 0), .val (.int .i64 0), .val (.int .i64 0), .val (.int .u8 0), .val (.int .u8 0), .val (.int .u64 0), .val (.string (⟨#[110, 111, 32, 115, 116, 97, 116, 105, 99, 32, 65, 32, 118, 108, 97, 110, 32, 86]⟩ : ByteArray)), .val (.int .i64 2), .val (.int .i64 0), .val (.int .i64 0), .val (.int .i64 0), .val (.int .i64 0), .val (.int .u8 0), .val (.int .u8 0), .val (.int .u64 0), .val (.string (⟨#[99, 111, 109, 109, 105, 116]⟩ : ByteArray)), .val (.int .i64 3), .val (.int .i64 0), .val (.int .i64 0), .val (.int .i64 0), .val (.int .i64 0), .val (.int .u8 0), .val (.int .u8 0), .val (.int .u64 0), .val (.string (⟨#[114, 111, 108, 108, 98, 97, 99, 107]⟩ : ByteArray)), .val (.int .i64 4), .val (.int .i64 0), .val (.int .i64 0), .val (.int .i64 0), .val (.int .i64 0), .val (.int .u8 0), .val (.int .u8 0), .val (.int .u64 0), .val (.string (⟨#[115, 104, 111, 119, 32, 99, 111, 110, 102, 105, 103]⟩ : ByteArray)), .val (.int .i64 5), .val (.int .i64 0), .val (.int .i64 0), .val (.int .i64 0), .val (.int .i64 0), .val (.int .u8 0), .val (.int .u8 0), .val (.int .u64 0), .val (.string (⟨#[115, 104, 111, 119, 32, 112, 111, 114, 116, 115]⟩ : ByteArray)), .val (.int .i64 6), .val (.int .i64 0), .val (.int .i64 0), .val (.int .i64 0), .val (.int .i64 0), .val (.int .u8 0), .val (.int .u8 0), .val (.int .u64 0), .val (.string (⟨#[115, 104, 111, 119, 32, 116, 97, 98, 108, 101]⟩ : ByteArray))]
/- weirgate/words.Cut: loop 0 -/
def words_Cut_L0_S  : List (Nat × Sm) := [(22, yes), (34, itoaSm), (13, numSm), (94, idxSm), (33, joinSm), (52, splitSm)]
def words_Cut_L0_B  : Hooks := []
noncomputable def words_Cut_L0_C  : Ctx := { tt := tt, eqs := has eql, call := runS tt (has eql) Tryd.prog.funcs 18446744073709551616 (words_Cut_L0_S ) (words_Cut_L0_B ) opts 40, fuel := 18446744073709551616, blk := fun i => aget [] i, bor := opts.bor }
def words_Cut_L0_lo : Vx → List Nat := fun | .normal => [3] | .exit j => (fun _ => []) j | .ret => [2]
def words_Cut_L0_h0 (a_1 a_2 : Int) (a_3 : Bool) (a_4 : Nat) (a_5 : Nat → Nat → PV) (a_6 : Nat) (a_7 : Nat → Nat → PV) : St := { n := 21, m := 0, t := [(3, .v (.c (.own 0))), (7, .v (.c (.own 1))), (8, .v (.c (.pv (.val (.int .i64 a_1))))), (9, .v (.c (.pv (.val (.int .i64 a_2)))))], h := [(0, .parr false a_3 (.str .nil) 1 a_4 (a_5)), (1, .parr false false (.str .nil) 1 a_6 (a_7))], nx := 2 }
def words_Cut_L0_x0 (r0 : Bool) (r1 : Nat) (r2 : Nat → Nat → PV) : St := { n := 21, m := 0, t := [(3, .v (.c (.own 0)))], h := [(0, .parr false r0 (.str .nil) 1 r1 (r2))], nx := 1 }
def words_Cut_L0_s0 {α : Type}  (rec0 : Y22 α) (k0 : Y35 α) (a_1 a_2 : Int) (a_3 : Bool) (a_4 : Nat) (a_5 : Nat → Nat → PV) (a_6 : Nat) (a_7 : Nat → Nat → PV) : Option α := bif decide (a_2 < a_1) then
  bif inb a_2 a_6 then
   bif !((textOf (a_7 a_2.toNat 0)).toList == (⟨#[]⟩ : ByteArray).toList) then
    bif Nat.ble ((a_4 + 1) * 16) bound then
     rec0 a_1 (IntKind.i64.wrap (a_2 + 1)) (a_3 && false) (a_4 + 1) (catf a_4 (a_5) (rowOf 1 [.val (.string (textOf (a_7 a_2.toNat 0)))])) a_6 a_7
    else none /- test -/
   else rec0 a_1 (IntKind.i64.wrap (a_2 + 1)) a_3 a_4 a_5 a_6 a_7
  else none /- test -/
 else k0 a_3 a_4 a_5
def words_Cut_L0_l0 {α : Type} (k0 : Y35 α) : Nat → Int → Int → Bool → Nat → (Nat → Nat → PV) → Nat → (Nat → Nat → PV) → Option α
  | 0 => fun _ _ _ _ _ _ _ => none
  | n + 1 => words_Cut_L0_s0  (words_Cut_L0_l0 k0 n) k0
theorem words_Cut_L0_s0_eq  (k : Kont) (n : Nat) (a_1 a_2 : Int) (a_3 : Bool) (a_4 : Nat) (a_5 : Nat → Nat → PV) (a_6 : Nat) (a_7 : Nat → Nat → PV) : loopN (fun st k => exec (words_Cut_L0_C ) (loopBody (codeAt Tryd.f16 0)) st k) [3, 7, 8, 9] (loopK 0 (kn words_Cut_L0_lo k)) (n + 1) (words_Cut_L0_h0 a_1 a_2 a_3 a_4 a_5 a_6 a_7) = words_Cut_L0_s0  (fun a_1 a_2 a_3 a_4 a_5 a_6 a_7 => loopN (fun st k => exec (words_Cut_L0_C ) (loopBody (codeAt Tryd.f16 0)) st k) [3, 7, 8, 9] (loopK 0 (kn words_Cut_L0_lo k)) n (words_Cut_L0_h0 a_1 a_2 a_3 a_4 a_5 a_6 a_7)) (fun r0 r1 r2 => k .normal (words_Cut_L0_x0 r0 r1 r2)) a_1 a_2 a_3 a_4 a_5 a_6 a_7 := by kernel_rfl
theorem words_Cut_L0_l0_eq (k : Kont) : ∀ (n : Nat) (a_1 a_2 : Int) (a_3 : Bool) (a_4 : Nat) (a_5 : Nat → Nat → PV) (a_6 : Nat) (a_7 : Nat → Nat → PV), loopN (fun st k => exec (words_Cut_L0_C ) (loopBody (codeAt Tryd.f16 0)) st k) [3, 7, 8, 9] (loopK 0 (kn words_Cut_L0_lo k)) n (words_Cut_L0_h0 a_1 a_2 a_3 a_4 a_5 a_6 a_7) = words_Cut_L0_l0 (fun r0 r1 r2 => k .normal (words_Cut_L0_x0 r0 r1 r2)) n a_1 a_2 a_3 a_4 a_5 a_6 a_7
  | 0, _, _, _, _, _, _, _ => rfl
  | n + 1, a_1, a_2, a_3, a_4, a_5, a_6, a_7 => by
    have r0 : (fun a_1 a_2 a_3 a_4 a_5 a_6 a_7 => loopN (fun st k => exec (words_Cut_L0_C ) (loopBody (codeAt Tryd.f16 0)) st k) [3, 7, 8, 9] (loopK 0 (kn words_Cut_L0_lo k)) n (words_Cut_L0_h0 a_1 a_2 a_3 a_4 a_5 a_6 a_7)) = words_Cut_L0_l0 (fun r0 r1 r2 => k .normal (words_Cut_L0_x0 r0 r1 r2)) n := funext fun a_1 => funext fun a_2 => funext fun a_3 => funext fun a_4 => funext fun a_5 => funext fun a_6 => funext fun a_7 => words_Cut_L0_l0_eq k n a_1 a_2 a_3 a_4 a_5 a_6 a_7
    exact (words_Cut_L0_s0_eq  k n a_1 a_2 a_3 a_4 a_5 a_6 a_7).trans (by rw [r0]; rfl)
def words_Cut_L0 {α : Type} (a_1 : Int) (a_2 : Nat → Nat → PV) (a_3 : Nat) (a_4 : Nat → Nat → PV) (k0 : Y35 α) : Option α := words_Cut_L0_l0 k0 18446744073709551616 a_1 0 true 0 a_2 a_3 a_4
def words_Cut_L0_e (a_1 : Int) (a_2 : Nat → Nat → PV) (a_3 : Nat) (a_4 : Nat → Nat → PV) : St := { n := 21, m := 0, t := [(3, .v (.c (.own 0))), (7, .v (.c (.own 1))), (8, .v (.c (.pv (.val (.int .i64 a_1))))), (9, .v (.c (.pv (.val (.int .i64 0)))))], h := [(0, .parr false true (.str .nil) 1 0 (a_2)), (1, .parr false false (.str .nil) 1 a_3 (a_4))], nx := 2 }
theorem words_Cut_L0_eq (a_1 : Int) (a_2 : Nat → Nat → PV) (a_3 : Nat) (a_4 : Nat → Nat → PV) (k : Kont) : exec (words_Cut_L0_C ) (codeAt Tryd.f16 0) (words_Cut_L0_e a_1 a_2 a_3 a_4) (kn words_Cut_L0_lo k) = words_Cut_L0 a_1 a_2 a_3 a_4 (fun r0 r1 r2 => k .normal (words_Cut_L0_x0 r0 r1 r2)) :=
  (by kernel_rfl : _ = loopN (fun st k => exec (words_Cut_L0_C ) (loopBody (codeAt Tryd.f16 0)) st k) [3, 7, 8, 9] (loopK 0 (kn words_Cut_L0_lo k)) 18446744073709551616 (words_Cut_L0_h0 a_1 0 true 0 a_2 a_3 a_4)).trans (words_Cut_L0_l0_eq k 18446744073709551616 a_1 0 true 0 a_2 a_3 a_4)
def words_Cut_L0_p : PSt := { n := 21, m := 0, t := [(3, .v (.c (.own 0))), (7, .v (.c (.own 1))), (8, .v (.c (.pv (.int .i64 .h)))), (9, .v (.c (.pv (.int .i64 (.l 0)))))], h := [(0, .parr (.l false) (.l true) (.str .nil) 1 (.l 0)), (1, .parr (.l false) (.l false) (.str .nil) 1 .h)], nx := 2 }
def words_Cut_L0_F (h : List Hole) (k : Kont) : Option Out := words_Cut_L0 (gI h 0) (gF h 1) (gN h 2) (gF h 3) (fun r0 r1 r2 => k .normal (words_Cut_L0_x0 r0 r1 r2))
theorem words_Cut_L0_at (h : List Hole) : BodyAt Tryd.prog (codeAt Tryd.f16 0) (stFill words_Cut_L0_p h) (words_Cut_L0_F h) := by
  have e : stFill words_Cut_L0_p h = words_Cut_L0_e (gI h 0) (gF h 1) (gN h 2) (gF h 3) := by kernel_rfl
  rw [e]; exact bodyAt_of (C := words_Cut_L0_C ) ⟨ttOk, eqOk, runS_ok ttOk eqOk mixed (names_ok namesOk) (S := words_Cut_L0_S ) (sums_cons yes22_ok (sums_cons itoa_ok (sums_cons num_ok (sums_cons idx_ok (sums_cons join_ok (sums_cons split_ok (sums_nil))))))) (B := words_Cut_L0_B ) (hooks_nil) opts 40⟩ mixed (hooked_in (by kernel_rfl) blk_nil 0) fun k => words_Cut_L0_eq _ _ _ _ k
def e2 (x0 : Int) : ByteArray := (⟨#[48, 49, 50, 51, 52, 53, 54, 55, 56, 57, 97, 98, 99, 100, 101, 102]⟩ : ByteArray).extract ((shrI .u8 (IntKind.u8.wrap (shrI .u64 x0 40)) 4).toNat) (((shrI .u8 (IntKind.u8.wrap (shrI .u64 x0 40)) 4).toNat) + (((IntKind.u8.wrap ((shrI .u8 (IntKind.u8.wrap (shrI .u64 x0 40)) 4) + 1)).toNat) - ((shrI .u8 (IntKind.u8.wrap (shrI .u64 x0 40)) 4).toNat)))
def e3 (x0 : Int) : ByteArray := (⟨#[48, 49, 50, 51, 52, 53, 54, 55, 56, 57, 97, 98, 99, 100, 101, 102]⟩ : ByteArray).extract ((bits .and .u8 (IntKind.u8.wrap (shrI .u64 x0 40)) 15).toNat) (((bits .and .u8 (IntKind.u8.wrap (shrI .u64 x0 40)) 15).toNat) + (((IntKind.u8.wrap ((bits .and .u8 (IntKind.u8.wrap (shrI .u64 x0 40)) 15) + 1)).toNat) - ((bits .and .u8 (IntKind.u8.wrap (shrI .u64 x0 40)) 15).toNat)))
def e4 (x0 : Int) : ByteArray := (⟨#[48, 49, 50, 51, 52, 53, 54, 55, 56, 57, 97, 98, 99, 100, 101, 102]⟩ : ByteArray).extract ((shrI .u8 (IntKind.u8.wrap (shrI .u64 x0 32)) 4).toNat) (((shrI .u8 (IntKind.u8.wrap (shrI .u64 x0 32)) 4).toNat) + (((IntKind.u8.wrap ((shrI .u8 (IntKind.u8.wrap (shrI .u64 x0 32)) 4) + 1)).toNat) - ((shrI .u8 (IntKind.u8.wrap (shrI .u64 x0 32)) 4).toNat)))
def e5 (x0 : Int) : ByteArray := (⟨#[48, 49, 50, 51, 52, 53, 54, 55, 56, 57, 97, 98, 99, 100, 101, 102]⟩ : ByteArray).extract ((bits .and .u8 (IntKind.u8.wrap (shrI .u64 x0 32)) 15).toNat) (((bits .and .u8 (IntKind.u8.wrap (shrI .u64 x0 32)) 15).toNat) + (((IntKind.u8.wrap ((bits .and .u8 (IntKind.u8.wrap (shrI .u64 x0 32)) 15) + 1)).toNat) - ((bits .and .u8 (IntKind.u8.wrap (shrI .u64 x0 32)) 15).toNat)))
def e6 (x0 : Int) : Nat → Nat → PV := catf 1 (rowOf 1 [.val (.string ((e2 x0) ++ (e3 x0)))]) (rowOf 1 [.val (.string ((e4 x0) ++ (e5 x0)))])
def e7 (x0 : Int) : ByteArray := (⟨#[48, 49, 50, 51, 52, 53, 54, 55, 56, 57, 97, 98, 99, 100, 101, 102]⟩ : ByteArray).extract ((shrI .u8 (IntKind.u8.wrap (shrI .u64 x0 24)) 4).toNat) (((shrI .u8 (IntKind.u8.wrap (shrI .u64 x0 24)) 4).toNat) + (((IntKind.u8.wrap ((shrI .u8 (IntKind.u8.wrap (shrI .u64 x0 24)) 4) + 1)).toNat) - ((shrI .u8 (IntKind.u8.wrap (shrI .u64 x0 24)) 4).toNat)))
def e8 (x0 : Int) : ByteArray := (⟨#[48, 49, 50, 51, 52, 53, 54, 55, 56, 57, 97, 98, 99, 100, 101, 102]⟩ : ByteArray).extract ((bits .and .u8 (IntKind.u8.wrap (shrI .u64 x0 24)) 15).toNat) (((bits .and .u8 (IntKind.u8.wrap (shrI .u64 x0 24)) 15).toNat) + (((IntKind.u8.wrap ((bits .and .u8 (IntKind.u8.wrap (shrI .u64 x0 24)) 15) + 1)).toNat) - ((bits .and .u8 (IntKind.u8.wrap (shrI .u64 x0 24)) 15).toNat)))
def e9 (x0 : Int) : ByteArray := (⟨#[48, 49, 50, 51, 52, 53, 54, 55, 56, 57, 97, 98, 99, 100, 101, 102]⟩ : ByteArray).extract ((shrI .u8 (IntKind.u8.wrap (shrI .u64 x0 16)) 4).toNat) (((shrI .u8 (IntKind.u8.wrap (shrI .u64 x0 16)) 4).toNat) + (((IntKind.u8.wrap ((shrI .u8 (IntKind.u8.wrap (shrI .u64 x0 16)) 4) + 1)).toNat) - ((shrI .u8 (IntKind.u8.wrap (shrI .u64 x0 16)) 4).toNat)))
def e10 (x0 : Int) : ByteArray := (⟨#[48, 49, 50, 51, 52, 53, 54, 55, 56, 57, 97, 98, 99, 100, 101, 102]⟩ : ByteArray).extract ((bits .and .u8 (IntKind.u8.wrap (shrI .u64 x0 16)) 15).toNat) (((bits .and .u8 (IntKind.u8.wrap (shrI .u64 x0 16)) 15).toNat) + (((IntKind.u8.wrap ((bits .and .u8 (IntKind.u8.wrap (shrI .u64 x0 16)) 15) + 1)).toNat) - ((bits .and .u8 (IntKind.u8.wrap (shrI .u64 x0 16)) 15).toNat)))
def e11 (x0 : Int) : Nat → Nat → PV := catf 3 (catf 2 (e6 x0) (rowOf 1 [.val (.string ((e7 x0) ++ (e8 x0)))])) (rowOf 1 [.val (.string ((e9 x0) ++ (e10 x0)))])
def e12 (x0 : Int) : ByteArray := (⟨#[48, 49, 50, 51, 52, 53, 54, 55, 56, 57, 97, 98, 99, 100, 101, 102]⟩ : ByteArray).extract ((shrI .u8 (IntKind.u8.wrap (shrI .u64 x0 8)) 4).toNat) (((shrI .u8 (IntKind.u8.wrap (shrI .u64 x0 8)) 4).toNat) + (((IntKind.u8.wrap ((shrI .u8 (IntKind.u8.wrap (shrI .u64 x0 8)) 4) + 1)).toNat) - ((shrI .u8 (IntKind.u8.wrap (shrI .u64 x0 8)) 4).toNat)))
def e13 (x0 : Int) : ByteArray := (⟨#[48, 49, 50, 51, 52, 53, 54, 55, 56, 57, 97, 98, 99, 100, 101, 102]⟩ : ByteArray).extract ((bits .and .u8 (IntKind.u8.wrap (shrI .u64 x0 8)) 15).toNat) (((bits .and .u8 (IntKind.u8.wrap (shrI .u64 x0 8)) 15).toNat) + (((IntKind.u8.wrap ((bits .and .u8 (IntKind.u8.wrap (shrI .u64 x0 8)) 15) + 1)).toNat) - ((bits .and .u8 (IntKind.u8.wrap (shrI .u64 x0 8)) 15).toNat)))
def e14 (x0 : Int) : ByteArray := (⟨#[48, 49, 50, 51, 52, 53, 54, 55, 56, 57, 97, 98, 99, 100, 101, 102]⟩ : ByteArray).extract ((shrI .u8 (IntKind.u8.wrap (shrI .u64 x0 0)) 4).toNat) (((shrI .u8 (IntKind.u8.wrap (shrI .u64 x0 0)) 4).toNat) + (((IntKind.u8.wrap ((shrI .u8 (IntKind.u8.wrap (shrI .u64 x0 0)) 4) + 1)).toNat) - ((shrI .u8 (IntKind.u8.wrap (shrI .u64 x0 0)) 4).toNat)))
def e15 (x0 : Int) : ByteArray := (⟨#[48, 49, 50, 51, 52, 53, 54, 55, 56, 57, 97, 98, 99, 100, 101, 102]⟩ : ByteArray).extract ((bits .and .u8 (IntKind.u8.wrap (shrI .u64 x0 0)) 15).toNat) (((bits .and .u8 (IntKind.u8.wrap (shrI .u64 x0 0)) 15).toNat) + (((IntKind.u8.wrap ((bits .and .u8 (IntKind.u8.wrap (shrI .u64 x0 0)) 15) + 1)).toNat) - ((bits .and .u8 (IntKind.u8.wrap (shrI .u64 x0 0)) 15).toNat)))
def e16 (x0 : Int) : Nat → Nat → PV := catf 5 (catf 4 (e11 x0) (rowOf 1 [.val (.string ((e12 x0) ++ (e13 x0)))])) (rowOf 1 [.val (.string ((e14 x0) ++ (e15 x0)))])
/- weirgate/mac.Text -/
def mac_Text_T {α : Type}  (a_1 : Int) (k0 : ByteArray → Option α) : Option α := bif !((shrI .u64 a_1 48) == 0) then
  k0 (⟨#[]⟩ : ByteArray)
 else bif inb (IntKind.u8.wrap ((shrI .u8 (IntKind.u8.wrap (shrI .u64 a_1 40)) 4) + 1)) 17 then
  bif (decide (0 ≤ shrI .u8 (IntKind.u8.wrap (shrI .u64 a_1 40)) 4) && decide (shrI .u8 (IntKind.u8.wrap (shrI .u64 a_1 40)) 4 ≤ IntKind.u8.wrap ((shrI .u8 (IntKind.u8.wrap (shrI .u64 a_1 40)) 4) + 1))) then
   bif inb (IntKind.u8.wrap ((bits .and .u8 (IntKind.u8.wrap (shrI .u64 a_1 40)) 15) + 1)) 17 then
    bif (decide (0 ≤ bits .and .u8 (IntKind.u8.wrap (shrI .u64 a_1 40)) 15) && decide (bits .and .u8 (IntKind.u8.wrap (shrI .u64 a_1 40)) 15 ≤ IntKind.u8.wrap ((bits .and .u8 (IntKind.u8.wrap (shrI .u64 a_1 40)) 15) + 1))) then
     bif Nat.ble ((e2 a_1).size + (e3 a_1).size) 4611686018427387904 then
      bif inb (IntKind.u8.wrap ((shrI .u8 (IntKind.u8.wrap (shrI .u64 a_1 32)) 4) + 1)) 17 then
       bif (decide (0 ≤ shrI .u8 (IntKind.u8.wrap (shrI .u64 a_1 32)) 4) && decide (shrI .u8 (IntKind.u8.wrap (shrI .u64 a_1 32)) 4 ≤ IntKind.u8.wrap ((shrI .u8 (IntKind.u8.wrap (shrI .u64 a_1 32)) 4) + 1))) then
        bif inb (IntKind.u8.wrap ((bits .and .u8 (IntKind.u8.wrap (shrI .u64 a_1 32)) 15) + 1)) 17 then
         bif (decide (0 ≤ bits .and .u8 (IntKind.u8.wrap (shrI .u64 a_1 32)) 15) && decide (bits .and .u8 (IntKind.u8.wrap (shrI .u64 a_1 32)) 15 ≤ IntKind.u8.wrap ((bits .and .u8 (IntKind.u8.wrap (shrI .u64 a_1 32)) 15) + 1))) then
          bif Nat.ble ((e4 a_1).size + (e5 a_1).size) 4611686018427387904 then
           bif inb (IntKind.u8.wrap ((shrI .u8 (IntKind.u8.wrap (shrI .u64 a_1 24)) 4) + 1)) 17 then
            bif (decide (0 ≤ shrI .u8 (IntKind.u8.wrap (shrI .u64 a_1 24)) 4) && decide (shrI .u8 (IntKind.u8.wrap (shrI .u64 a_1 24)) 4 ≤ IntKind.u8.wrap ((shrI .u8 (IntKind.u8.wrap (shrI .u64 a_1 24)) 4) + 1))) then
             bif inb (IntKind.u8.wrap ((bits .and .u8 (IntKind.u8.wrap (shrI .u64 a_1 24)) 15) + 1)) 17 then
              bif (decide (0 ≤ bits .and .u8 (IntKind.u8.wrap (shrI .u64 a_1 24)) 15) && decide (bits .and .u8 (IntKind.u8.wrap (shrI .u64 a_1 24)) 15 ≤ IntKind.u8.wrap ((bits .and .u8 (IntKind.u8.wrap (shrI .u64 a_1 24)) 15) + 1))) then
               bif Nat.ble ((e7 a_1).size + (e8 a_1).size) 4611686018427387904 then
                bif inb (IntKind.u8.wrap ((shrI .u8 (IntKind.u8.wrap (shrI .u64 a_1 16)) 4) + 1)) 17 then
                 bif (decide (0 ≤ shrI .u8 (IntKind.u8.wrap (shrI .u64 a_1 16)) 4) && decide (shrI .u8 (IntKind.u8.wrap (shrI .u64 a_1 16)) 4 ≤ IntKind.u8.wrap ((shrI .u8 (IntKind.u8.wrap (shrI .u64 a_1 16)) 4) + 1))) then
                  bif inb (IntKind.u8.wrap ((bits .and .u8 (IntKind.u8.wrap (shrI .u64 a_1 16)) 15) + 1)) 17 then
                   bif (decide (0 ≤ bits .and .u8 (IntKind.u8.wrap (shrI .u64 a_1 16)) 15) && decide (bits .and .u8 (IntKind.u8.wrap (shrI .u64 a_1 16)) 15 ≤ IntKind.u8.wrap ((bits .and .u8 (IntKind.u8.wrap (shrI .u64 a_1 16)) 15) + 1))) then
                    bif Nat.ble ((e9 a_1).size + (e10 a_1).size) 4611686018427387904 then
                     bif inb (IntKind.u8.wrap ((shrI .u8 (IntKind.u8.wrap (shrI .u64 a_1 8)) 4) + 1)) 17 then
                      bif (decide (0 ≤ shrI .u8 (IntKind.u8.wrap (shrI .u64 a_1 8)) 4) && decide (shrI .u8 (IntKind.u8.wrap (shrI .u64 a_1 8)) 4 ≤ IntKind.u8.wrap ((shrI .u8 (IntKind.u8.wrap (shrI .u64 a_1 8)) 4) + 1))) then
                       bif inb (IntKind.u8.wrap ((bits .and .u8 (IntKind.u8.wrap (shrI .u64 a_1 8)) 15) + 1)) 17 then
                        bif (decide (0 ≤ bits .and .u8 (IntKind.u8.wrap (shrI .u64 a_1 8)) 15) && decide (bits .and .u8 (IntKind.u8.wrap (shrI .u64 a_1 8)) 15 ≤ IntKind.u8.wrap ((bits .and .u8 (IntKind.u8.wrap (shrI .u64 a_1 8)) 15) + 1))) then
                         bif Nat.ble ((e12 a_1).size + (e13 a_1).size) 4611686018427387904 then
                          bif inb (IntKind.u8.wrap ((shrI .u8 (IntKind.u8.wrap (shrI .u64 a_1 0)) 4) + 1)) 17 then
                           bif (decide (0 ≤ shrI .u8 (IntKind.u8.wrap (shrI .u64 a_1 0)) 4) && decide (shrI .u8 (IntKind.u8.wrap (shrI .u64 a_1 0)) 4 ≤ IntKind.u8.wrap ((shrI .u8 (IntKind.u8.wrap (shrI .u64 a_1 0)) 4) + 1))) then
                            bif inb (IntKind.u8.wrap ((bits .and .u8 (IntKind.u8.wrap (shrI .u64 a_1 0)) 15) + 1)) 17 then
                             bif (decide (0 ≤ bits .and .u8 (IntKind.u8.wrap (shrI .u64 a_1 0)) 15) && decide (bits .and .u8 (IntKind.u8.wrap (shrI .u64 a_1 0)) 15 ≤ IntKind.u8.wrap ((bits .and .u8 (IntKind.u8.wrap (shrI .u64 a_1 0)) 15) + 1))) then
                              bif Nat.ble ((e14 a_1).size + (e15 a_1).size) 4611686018427387904 then
                               bif joinOk 6 (e16 a_1) (⟨#[58]⟩ : ByteArray) then
                                k0 (joinS 6 (e16 a_1) (⟨#[58]⟩ : ByteArray))
                               else none /- test -/
                              else none /- test -/
                             else none /- test -/
                            else none /- test -/
                           else none /- test -/
                          else none /- test -/
                         else none /- test -/
                        else none /- test -/
                       else none /- test -/
                      else none /- test -/
                     else none /- test -/
                    else none /- test -/
                   else none /- test -/
                  else none /- test -/
                 else none /- test -/
                else none /- test -/
               else none /- test -/
              else none /- test -/
             else none /- test -/
            else none /- test -/
           else none /- test -/
          else none /- test -/
         else none /- test -/
        else none /- test -/
       else none /- test -/
      else none /- test -/
     else none /- test -/
    else none /- test -/
   else none /- test -/
  else none /- test -/
 else none /- test -/
def mac_Text {α : Type} (a_1 : Int) (k0 : ByteArray → Option α) : Option α := mac_Text_T  a_1 k0
def mac_Text_S  : List (Nat × Sm) := [(22, yes), (34, itoaSm), (13, numSm), (94, idxSm), (33, joinSm), (52, splitSm)]
def mac_Text_B  : Hooks := []
theorem mac_Text_eq  (a_1 : Int) (k : FK) : runS tt (has eql) Tryd.prog.funcs 18446744073709551616 (mac_Text_S ) (mac_Text_B ) opts 40 59 [.v (.c (.pv (.val (.int .u64 a_1))))] [] k = mac_Text_T  a_1 (fun r0 => k (.v (.c (.pv (.val (.string r0))))) []) := by kernel_rfl
def mac_Text_p : PAr := ⟨[.v (.c (.pv (.int .u64 .h)))], []⟩
def mac_Text_F (h : List Hole) (k : FK) : Option Out := mac_Text (gI h 0) (fun r0 => k (.v (.c (.pv (.val (.string r0))))) [])
theorem mac_Text_at (h : List Hole) : CallAt Tryd.prog 59 (arFill mac_Text_p h).1 (arFill mac_Text_p h).2 (mac_Text_F h) := by
  have e : arFill mac_Text_p h = ([.v (.c (.pv (.val (.int .u64 (gI h 0)))))], []) := by kernel_rfl
  rw [e]; exact callAt_of (runS_ok ttOk eqOk mixed (names_ok namesOk) (S := mac_Text_S ) (sums_cons yes22_ok (sums_cons itoa_ok (sums_cons num_ok (sums_cons idx_ok (sums_cons join_ok (sums_cons split_ok (sums_nil))))))) (B := mac_Text_B ) (hooks_nil) opts 40) fun k => mac_Text_eq  _ k
/- (weirgate/parse.Cmd).write -/
def parse_Cmd_write_T {α : Type} (Gmac_Text : Y34 α) (a_1 a_2 a_3 a_4 a_5 a_6 a_7 a_8 : Int) (a_9 : ByteArray) (k0 : ByteArray → Option α) : Option α := bif (a_9.toList == (⟨#[78]⟩ : ByteArray).toList) then
  bif okI a_4 then
   k0 (itoaS a_4)
  else none /- test -/
 else bif (a_9.toList == (⟨#[80]⟩ : ByteArray).toList) then
  bif okI a_3 then
   k0 (itoaS a_3)
  else none /- test -/
 else bif (a_9.toList == (⟨#[86]⟩ : ByteArray).toList) then
  bif okI a_5 then
   k0 (itoaS a_5)
  else none /- test -/
 else bif (a_9.toList == (⟨#[77]⟩ : ByteArray).toList) then
  bif okI (IntKind.i64.wrap a_6) then
   k0 (itoaS (IntKind.i64.wrap a_6))
  else none /- test -/
 else bif (a_9.toList == (⟨#[84]⟩ : ByteArray).toList) then
  bif okI (IntKind.i64.wrap a_7) then
   k0 (itoaS (IntKind.i64.wrap a_7))
  else none /- test -/
 else bif (a_9.toList == (⟨#[65]⟩ : ByteArray).toList) then
  Gmac_Text a_8
   (fun r_10 => k0 r_10)
 else k0 a_9
def parse_Cmd_write {α : Type} (a_1 a_2 a_3 a_4 a_5 a_6 a_7 a_8 : Int) (a_9 : ByteArray) (k0 : ByteArray → Option α) : Option α := parse_Cmd_write_T mac_Text a_1 a_2 a_3 a_4 a_5 a_6 a_7 a_8 a_9 k0
def parse_Cmd_write_S (Gmac_Text : Y34 Out) : List (Nat × Sm) := [(22, yes), (34, itoaSm), (13, numSm), (94, idxSm), (33, joinSm), (52, splitSm), (59, smOf [(mac_Text_p, fun h k => Gmac_Text (gI h 0) (fun r0 => k (.v (.c (.pv (.val (.string r0))))) []))])]
def parse_Cmd_write_B (Gmac_Text : Y34 Out) : Hooks := []
theorem parse_Cmd_write_eq (Gmac_Text : Y34 Out) (a_1 a_2 a_3 a_4 a_5 a_6 a_7 a_8 : Int) (a_9 : ByteArray) (k : FK) : runS tt (has eql) Tryd.prog.funcs 18446744073709551616 (parse_Cmd_write_S Gmac_Text) (parse_Cmd_write_B Gmac_Text) opts 40 40 [.v (.agg [.pv (.val (.int .i64 a_1)), .pv (.val (.int .i64 a_2)), .pv (.val (.int .i64 a_3)), .pv (.val (.int .i64 a_4)), .pv (.val (.int .i64 a_5)), .pv (.val (.int .u8 a_6)), .pv (.val (.int .u8 a_7)), .pv (.val (.int .u64 a_8))]), .v (.c (.pv (.val (.string a_9))))] [] k = parse_Cmd_write_T Gmac_Text a_1 a_2 a_3 a_4 a_5 a_6 a_7 a_8 a_9 (fun r0 => k (.v (.c (.pv (.val (.string r0))))) []) := by kernel_rfl
def parse_Cmd_write_p : PAr := ⟨[.v (.agg [.pv (.int .i64 .h), .pv (.int .i64 .h), .pv (.int .i64 .h), .pv (.int .i64 .h), .pv (.int .i64 .h), .pv (.int .u8 .h), .pv (.int .u8 .h), .pv (.int .u64 .h)]), .v (.c (.pv (.str)))], []⟩
def parse_Cmd_write_F (h : List Hole) (k : FK) : Option Out := parse_Cmd_write (gI h 0) (gI h 1) (gI h 2) (gI h 3) (gI h 4) (gI h 5) (gI h 6) (gI h 7) (gS h 8) (fun r0 => k (.v (.c (.pv (.val (.string r0))))) [])
theorem parse_Cmd_write_at (h : List Hole) : CallAt Tryd.prog 40 (arFill parse_Cmd_write_p h).1 (arFill parse_Cmd_write_p h).2 (parse_Cmd_write_F h) := by
  have e : arFill parse_Cmd_write_p h = ([.v (.agg [.pv (.val (.int .i64 (gI h 0))), .pv (.val (.int .i64 (gI h 1))), .pv (.val (.int .i64 (gI h 2))), .pv (.val (.int .i64 (gI h 3))), .pv (.val (.int .i64 (gI h 4))), .pv (.val (.int .u8 (gI h 5))), .pv (.val (.int .u8 (gI h 6))), .pv (.val (.int .u64 (gI h 7)))]), .v (.c (.pv (.val (.string (gS h 8)))))], []) := by kernel_rfl
  rw [e]; exact callAt_of (runS_ok ttOk eqOk mixed (names_ok namesOk) (S := parse_Cmd_write_S mac_Text) (sums_cons yes22_ok (sums_cons itoa_ok (sums_cons num_ok (sums_cons idx_ok (sums_cons join_ok (sums_cons split_ok (sums_cons (smOf_ok (alts_cons mac_Text_at alts_nil)) (sums_nil)))))))) (B := parse_Cmd_write_B mac_Text) (hooks_nil) opts 40) fun k => parse_Cmd_write_eq mac_Text _ _ _ _ _ _ _ _ _ k
/- weirgate/parse.Text: loop 2 -/
def parse_Text_L2_S (Gparse_Cmd_write : Y15 Out) : List (Nat × Sm) := [(22, yes), (34, itoaSm), (13, numSm), (94, idxSm), (33, joinSm), (52, splitSm), (40, smOf [(parse_Cmd_write_p, fun h k => Gparse_Cmd_write (gI h 0) (gI h 1) (gI h 2) (gI h 3) (gI h 4) (gI h 5) (gI h 6) (gI h 7) (gS h 8) (fun r0 => k (.v (.c (.pv (.val (.string r0))))) []))])]
def parse_Text_L2_B (Gparse_Cmd_write : Y15 Out) : Hooks := []
noncomputable def parse_Text_L2_C (Gparse_Cmd_write : Y15 Out) : Ctx := { tt := tt, eqs := has eql, call := runS tt (has eql) Tryd.prog.funcs 18446744073709551616 (parse_Text_L2_S Gparse_Cmd_write) (parse_Text_L2_B Gparse_Cmd_write) opts 40, fuel := 18446744073709551616, blk := fun i => aget [] i, bor := opts.bor }
def parse_Text_L2_lo : Vx → List Nat := fun | .normal => [1, 5, 6, 11, 12, 13] | .exit j => bif Nat.beq j 1 then [1, 11, 12, 13] else bif Nat.beq j 0 then [] else [] | .ret => [2, 3]
def parse_Text_L2_h0 (a_1 a_2 a_3 a_4 a_5 a_6 a_7 a_8 a_9 a_10 a_11 a_12 a_13 a_14 a_15 a_16 a_17 a_18 : Int) (a_19 : ByteArray) (a_20 : Bool) (a_21 : Nat) (a_22 a_23 : Nat → Nat → PV) (a_24 : Bool) (a_25 : Nat) (a_26 : Nat → Nat → PV) : St := { n := 49, m := 0, t := [(1, .v (.c (.ptr 0 0))), (5, .v (.c (.ptr 1 0))), (6, .v (.c (.own 2))), (11, .v (.c (.own 3))), (12, .v (.c (.pv (.val (.int .i64 16))))), (13, .v (.c (.pv (.val (.int .i64 0))))), (19, .v (.c (.own 4))), (20, .v (.c (.pv (.val (.int .i64 a_1))))), (21, .v (.c (.pv (.val (.int .i64 a_2)))))], h := [(0, .cells false [.pv (.val (.int .i64 a_3)), .pv (.val (.int .i64 a_4)), .pv (.val (.int .i64 a_5)), .pv (.val (.int .i64 a_6)), .pv (.val (.int .i64 a_7)), .pv (.val (.int .u8 a_8)), .pv (.val (.int .u8 a_9)), .pv (.val (.int .u64 a_10))]), (1, .cells false [.pv (.val (.int .i64 a_11)), .pv (.val (.int .i64 a_12)), .pv (.val (.int .i64 a_13)), .pv (.val (.int .i64 a_14)), .pv (.val (.int .i64 a_15)), .pv (.val (.int .u8 a_16)), .pv (.val (.int .u8 a_17)), .pv (.val (.int .u64 a_18)), .pv (.val (.string a_19))]), (2, .parr false a_20 (.str .nil) 1 a_21 (a_22)), (3, .parr false false (.int .i64 (.int .i64 (.int .i64 (.int .i64 (.int .i64 (.int .u8 (.int .u8 (.int .u64 (.str .nil))))))))) 9 16 (a_23)), (4, .parr false a_24 (.str .nil) 1 a_25 (a_26))], nx := 5 }
def parse_Text_L2_x0 (r0 r1 r2 r3 r4 r5 r6 r7 r8 r9 r10 r11 r12 r13 r14 r15 : Int) (r16 : ByteArray) (r17 : Bool) (r18 : Nat) (r19 r20 : Nat → Nat → PV) : St := { n := 49, m := 0, t := [(1, .v (.c (.ptr 0 0))), (5, .v (.c (.ptr 1 0))), (6, .v (.c (.own 2))), (11, .v (.c (.own 3))), (12, .v (.c (.pv (.val (.int .i64 16))))), (13, .v (.c (.pv (.val (.int .i64 0)))))], h := [(0, .cells false [.pv (.val (.int .i64 r0)), .pv (.val (.int .i64 r1)), .pv (.val (.int .i64 r2)), .pv (.val (.int .i64 r3)), .pv (.val (.int .i64 r4)), .pv (.val (.int .u8 r5)), .pv (.val (.int .u8 r6)), .pv (.val (.int .u64 r7))]), (1, .cells false [.pv (.val (.int .i64 r8)), .pv (.val (.int .i64 r9)), .pv (.val (.int .i64 r10)), .pv (.val (.int .i64 r11)), .pv (.val (.int .i64 r12)), .pv (.val (.int .u8 r13)), .pv (.val (.int .u8 r14)), .pv (.val (.int .u64 r15)), .pv (.val (.string r16))]), (2, .parr false r17 (.str .nil) 1 r18 (r19)), (3, .parr false false (.int .i64 (.int .i64 (.int .i64 (.int .i64 (.int .i64 (.int .u8 (.int .u8 (.int .u64 (.str .nil))))))))) 9 16 (r20))], nx := 4 }
def parse_Text_L2_s0 {α : Type} (Gparse_Cmd_write : Y15 α) (rec0 : Int → Int → Int → Int → Int → Int → Int → Int → Int → Int → Int → Int → Int → Int → Int → Int → Int → Int → ByteArray → Bool → Nat → (Nat → Nat → PV) → (Nat → Nat → PV) → Bool → Nat → (Nat → Nat → PV) → Option α) (k0 : Y6 α) (a_1 a_2 a_3 a_4 a_5 a_6 a_7 a_8 a_9 a_10 a_11 a_12 a_13 a_14 a_15 a_16 a_17 a_18 : Int) (a_19 : ByteArray) (a_20 : Bool) (a_21 : Nat) (a_22 a_23 : Nat → Nat → PV) (a_24 : Bool) (a_25 : Nat) (a_26 : Nat → Nat → PV) : Option α := bif decide (a_2 < a_1) then
  bif inb a_2 a_25 then
   Gparse_Cmd_write a_3 a_4 a_5 a_6 a_7 a_8 a_9 a_10 (textOf (a_26 a_2.toNat 0))
    (fun r_27 => bif Nat.ble ((a_21 + 1) * 16) bound then
     rec0 a_1 (IntKind.i64.wrap (a_2 + 1)) a_3 a_4 a_5 a_6 a_7 a_8 a_9 a_10 a_11 a_12 a_13 a_14 a_15 a_16 a_17 a_18 a_19 (a_20 && false) (a_21 + 1) (catf a_21 (a_22) (rowOf 1 [.val (.string r_27)])) a_23 a_24 a_25 a_26
    else none /- test -/)
  else none /- test -/
 else k0 a_3 a_4 a_5 a_6 a_7 a_8 a_9 a_10 a_11 a_12 a_13 a_14 a_15 a_16 a_17 a_18 a_19 a_20 a_21 a_22 a_23
def parse_Text_L2_l0 {α : Type} (k0 : Y6 α) : Nat → Int → Int → Int → Int → Int → Int → Int → Int → Int → Int → Int → Int → Int → Int → Int → Int → Int → Int → ByteArray → Bool → Nat → (Nat → Nat → PV) → (Nat → Nat → PV) → Bool → Nat → (Nat → Nat → PV) → Option α
  | 0 => fun _ _ _ _ _ _ _ _ _ _ _ _ _ _ _ _ _ _ _ _ _ _ _ _ _ _ => none
  | n + 1 => parse_Text_L2_s0 parse_Cmd_write (parse_Text_L2_l0 k0 n) k0
theorem parse_Text_L2_s0_eq (Gparse_Cmd_write : Y15 Out) (k : Kont) (n : Nat) (a_1 a_2 a_3 a_4 a_5 a_6 a_7 a_8 a_9 a_10 a_11 a_12 a_13 a_14 a_15 a_16 a_17 a_18 : Int) (a_19 : ByteArray) (a_20 : Bool) (a_21 : Nat) (a_22 a_23 : Nat → Nat → PV) (a_24 : Bool) (a_25 : Nat) (a_26 : Nat → Nat → PV) : loopN (fun st k => exec (parse_Text_L2_C Gparse_Cmd_write) (loopBody (codeAt Tryd.f26 2)) st k) [1, 5, 6, 11, 12, 13, 19, 20, 21] (loopK 2 (kn parse_Text_L2_lo k)) (n + 1) (parse_Text_L2_h0 a_1 a_2 a_3 a_4 a_5 a_6 a_7 a_8 a_9 a_10 a_11 a_12 a_13 a_14 a_15 a_16 a_17 a_18 a_19 a_20 a_21 a_22 a_23 a_24 a_25 a_26) = parse_Text_L2_s0 Gparse_Cmd_write (fun a_1 a_2 a_3 a_4 a_5 a_6 a_7 a_8 a_9 a_10 a_11 a_12 a_13 a_14 a_15 a_16 a_17 a_18 a_19 a_20 a_21 a_22 a_23 a_24 a_25 a_26 => loopN (fun st k => exec (parse_Text_L2_C Gparse_Cmd_write) (loopBody (codeAt Tryd.f26 2)) st k) [1, 5, 6, 11, 12, 13, 19, 20, 21] (loopK 2 (kn parse_Text_L2_lo k)) n (parse_Text_L2_h0 a_1 a_2 a_3 a_4 a_5 a_6 a_7 a_8 a_9 a_10 a_11 a_12 a_13 a_14 a_15 a_16 a_17 a_18 a_19 a_20 a_21 a_22 a_23 a_24 a_25 a_26)) (fun r0 r1 r2 r3 r4 r5 r6 r7 r8 r9 r10 r11 r12 r13 r14 r15 r16 r17 r18 r19 r20 => k .normal (parse_Text_L2_x0 r0 r1 r2 r3 r4 r5 r6 r7 r8 r9 r10 r11 r12 r13 r14 r15 r16 r17 r18 r19 r20)) a_1 a_2 a_3 a_4 a_5 a_6 a_7 a_8 a_9 a_10 a_11 a_12 a_13 a_14 a_15 a_16 a_17 a_18 a_19 a_20 a_21 a_22 a_23 a_24 a_25 a_26 := by kernel_rfl
theorem parse_Text_L2_l0_eq (k : Kont) : ∀ (n : Nat) (a_1 a_2 a_3 a_4 a_5 a_6 a_7 a_8 a_9 a_10 a_11 a_12 a_13 a_14 a_15 a_16 a_17 a_18 : Int) (a_19 : ByteArray) (a_20 : Bool) (a_21 : Nat) (a_22 a_23 : Nat → Nat → PV) (a_24 : Bool) (a_25 : Nat) (a_26 : Nat → Nat → PV), loopN (fun st k => exec (parse_Text_L2_C parse_Cmd_write) (loopBody (codeAt Tryd.f26 2)) st k) [1, 5, 6, 11, 12, 13, 19, 20, 21] (loopK 2 (kn parse_Text_L2_lo k)) n (parse_Text_L2_h0 a_1 a_2 a_3 a_4 a_5 a_6 a_7 a_8 a_9 a_10 a_11 a_12 a_13 a_14 a_15 a_16 a_17 a_18 a_19 a_20 a_21 a_22 a_23 a_24 a_25 a_26) = parse_Text_L2_l0 (fun r0 r1 r2 r3 r4 r5 r6 r7 r8 r9 r10 r11 r12 r13 r14 r15 r16 r17 r18 r19 r20 => k .normal (parse_Text_L2_x0 r0 r1 r2 r3 r4 r5 r6 r7 r8 r9 r10 r11 r12 r13 r14 r15 r16 r17 r18 r19 r20)) n a_1 a_2 a_3 a_4 a_5 a_6 a_7 a_8 a_9 a_10 a_11 a_12 a_13 a_14 a_15 a_16 a_17 a_18 a_19 a_20 a_21 a_22 a_23 a_24 a_25 a_26
  | 0, _, _, _, _, _, _, _, _, _, _, _, _, _, _, _, _, _, _, _, _, _, _, _, _, _, _ => rfl
  | n + 1, a_1, a_2, a_3, a_4, a_5, a_6, a_7, a_8, a_9, a_10, a_11, a_12, a_13, a_14, a_15, a_16, a_17, a_18, a_19, a_20, a_21, a_22, a_23, a_24, a_25, a_26 => by
    have r0 : (fun a_1 a_2 a_3 a_4 a_5 a_6 a_7 a_8 a_9 a_10 a_11 a_12 a_13 a_14 a_15 a_16 a_17 a_18 a_19 a_20 a_21 a_22 a_23 a_24 a_25 a_26 => loopN (fun st k => exec (parse_Text_L2_C parse_Cmd_write) (loopBody (codeAt Tryd.f26 2)) st k) [1, 5, 6, 11, 12, 13, 19, 20, 21] (loopK 2 (kn parse_Text_L2_lo k)) n (parse_Text_L2_h0 a_1 a_2 a_3 a_4 a_5 a_6 a_7 a_8 a_9 a_10 a_11 a_12 a_13 a_14 a_15 a_16 a_17 a_18 a_19 a_20 a_21 a_22 a_23 a_24 a_25 a_26)) = parse_Text_L2_l0 (fun r0 r1 r2 r3 r4 r5 r6 r7 r8 r9 r10 r11 r12 r13 r14 r15 r16 r17 r18 r19 r20 => k .normal (parse_Text_L2_x0 r0 r1 r2 r3 r4 r5 r6 r7 r8 r9 r10 r11 r12 r13 r14 r15 r16 r17 r18 r19 r20)) n := funext fun a_1 => funext fun a_2 => funext fun a_3 => funext fun a_4 => funext fun a_5 => funext fun a_6 => funext fun a_7 => funext fun a_8 => funext fun a_9 => funext fun a_10 => funext fun a_11 => funext fun a_12 => funext fun a_13 => funext fun a_14 => funext fun a_15 => funext fun a_16 => funext fun a_17 => funext fun a_18 => funext fun a_19 => funext fun a_20 => funext fun a_21 => funext fun a_22 => funext fun a_23 => funext fun a_24 => funext fun a_25 => funext fun a_26 => parse_Text_L2_l0_eq k n a_1 a_2 a_3 a_4 a_5 a_6 a_7 a_8 a_9 a_10 a_11 a_12 a_13 a_14 a_15 a_16 a_17 a_18 a_19 a_20 a_21 a_22 a_23 a_24 a_25 a_26
    exact (parse_Text_L2_s0_eq parse_Cmd_write k n a_1 a_2 a_3 a_4 a_5 a_6 a_7 a_8 a_9 a_10 a_11 a_12 a_13 a_14 a_15 a_16 a_17 a_18 a_19 a_20 a_21 a_22 a_23 a_24 a_25 a_26).trans (by rw [r0]; rfl)
def parse_Text_L2 {α : Type} (a_1 a_2 a_3 a_4 a_5 a_6 a_7 a_8 a_9 a_10 a_11 a_12 a_13 a_14 a_15 a_16 a_17 : Int) (a_18 : ByteArray) (a_19 a_20 : Nat → Nat → PV) (a_21 : Bool) (a_22 : Nat) (a_23 : Nat → Nat → PV) (k0 : Y6 α) : Option α := parse_Text_L2_l0 k0 18446744073709551616 a_1 0 a_2 a_3 a_4 a_5 a_6 a_7 a_8 a_9 a_10 a_11 a_12 a_13 a_14 a_15 a_16 a_17 a_18 true 0 a_19 a_20 a_21 a_22 a_23
def parse_Text_L2_e (a_1 a_2 a_3 a_4 a_5 a_6 a_7 a_8 a_9 a_10 a_11 a_12 a_13 a_14 a_15 a_16 a_17 : Int) (a_18 : ByteArray) (a_19 a_20 : Nat → Nat → PV) (a_21 : Bool) (a_22 : Nat) (a_23 : Nat → Nat → PV) : St := { n := 49, m := 0, t := [(1, .v (.c (.ptr 0 0))), (5, .v (.c (.ptr 1 0))), (6, .v (.c (.own 2))), (11, .v (.c (.own 3))), (12, .v (.c (.pv (.val (.int .i64 16))))), (13, .v (.c (.pv (.val (.int .i64 0))))), (19, .v (.c (.own 4))), (20, .v (.c (.pv (.val (.int .i64 a_1))))), (21, .v (.c (.pv (.val (.int .i64 0)))))], h := [(0, .cells false [.pv (.val (.int .i64 a_2)), .pv (.val (.int .i64 a_3)), .pv (.val (.int .i64 a_4)), .pv (.val (.int .i64 a_5)), .pv (.val (.int .i64 a_6)), .pv (.val (.int .u8 a_7)), .pv (.val (.int .u8 a_8)), .pv (.val (.int .u64 a_9))]), (1, .cells false [.pv (.val (.int .i64 a_10)), .pv (.val (.int .i64 a_11)), .pv (.val (.int .i64 a_12)), .pv (.val (.int .i64 a_13)), .pv (.val (.int .i64 a_14)), .pv (.val (.int .u8 a_15)), .pv (.val (.int .u8 a_16)), .pv (.val (.int .u64 a_17)), .pv (.val (.string a_18))]), (2, .parr false true (.str .nil) 1 0 (a_19)), (3, .parr false false (.int .i64 (.int .i64 (.int .i64 (.int .i64 (.int .i64 (.int .u8 (.int .u8 (.int .u64 (.str .nil))))))))) 9 16 (a_20)), (4, .parr false a_21 (.str .nil) 1 a_22 (a_23))], nx := 5 }
theorem parse_Text_L2_eq (a_1 a_2 a_3 a_4 a_5 a_6 a_7 a_8 a_9 a_10 a_11 a_12 a_13 a_14 a_15 a_16 a_17 : Int) (a_18 : ByteArray) (a_19 a_20 : Nat → Nat → PV) (a_21 : Bool) (a_22 : Nat) (a_23 : Nat → Nat → PV) (k : Kont) : exec (parse_Text_L2_C parse_Cmd_write) (codeAt Tryd.f26 2) (parse_Text_L2_e a_1 a_2 a_3 a_4 a_5 a_6 a_7 a_8 a_9 a_10 a_11 a_12 a_13 a_14 a_15 a_16 a_17 a_18 a_19 a_20 a_21 a_22 a_23) (kn parse_Text_L2_lo k) = parse_Text_L2 a_1 a_2 a_3 a_4 a_5 a_6 a_7 a_8 a_9 a_10 a_11 a_12 a_13 a_14 a_15 a_16 a_17 a_18 a_19 a_20 a_21 a_22 a_23 (fun r0 r1 r2 r3 r4 r5 r6 r7 r8 r9 r10 r11 r12 r13 r14 r15 r16 r17 r18 r19 r20 => k .normal (parse_Text_L2_x0 r0 r1 r2 r3 r4 r5 r6 r7 r8 r9 r10 r11 r12 r13 r14 r15 r16 r17 r18 r19 r20)) :=
  (by kernel_rfl : _ = loopN (fun st k => exec (parse_Text_L2_C parse_Cmd_write) (loopBody (codeAt Tryd.f26 2)) st k) [1, 5, 6, 11, 12, 13, 19, 20, 21] (loopK 2 (kn parse_Text_L2_lo k)) 18446744073709551616 (parse_Text_L2_h0 a_1 0 a_2 a_3 a_4 a_5 a_6 a_7 a_8 a_9 a_10 a_11 a_12 a_13 a_14 a_15 a_16 a_17 a_18 true 0 a_19 a_20 a_21 a_22 a_23)).trans (parse_Text_L2_l0_eq k 18446744073709551616 a_1 0 a_2 a_3 a_4 a_5 a_6 a_7 a_8 a_9 a_10 a_11 a_12 a_13 a_14 a_15 a_16 a_17 a_18 true 0 a_19 a_20 a_21 a_22 a_23)
def parse_Text_L2_p : PSt := { n := 49, m := 0, t := [(1, .v (.c (.ptr 0 0))), (5, .v (.c (.ptr 1 0))), (6, .v (.c (.own 2))), (11, .v (.c (.own 3))), (12, .v (.c (.pv (.int .i64 (.l 16))))), (13, .v (.c (.pv (.int .i64 (.l 0))))), (19, .v (.c (.own 4))), (20, .v (.c (.pv (.int .i64 .h)))), (21, .v (.c (.pv (.int .i64 (.l 0)))))], h := [(0, .cells (.l false) [.pv (.int .i64 .h), .pv (.int .i64 .h), .pv (.int .i64 .h), .pv (.int .i64 .h), .pv (.int .i64 .h), .pv (.int .u8 .h), .pv (.int .u8 .h), .pv (.int .u64 .h)]), (1, .cells (.l false) [.pv (.int .i64 .h), .pv (.int .i64 .h), .pv (.int .i64 .h), .pv (.int .i64 .h), .pv (.int .i64 .h), .pv (.int .u8 .h), .pv (.int .u8 .h), .pv (.int .u64 .h), .pv (.str)]), (2, .parr (.l false) (.l true) (.str .nil) 1 (.l 0)), (3, .parr (.l false) (.l false) (.int .i64 (.int .i64 (.int .i64 (.int .i64 (.int .i64 (.int .u8 (.int .u8 (.int .u64 (.str .nil))))))))) 9 (.l 16)), (4, .parr (.l false) .h (.str .nil) 1 .h)], nx := 5 }
def parse_Text_L2_F (h : List Hole) (k : Kont) : Option Out := parse_Text_L2 (gI h 0) (gI h 1) (gI h 2) (gI h 3) (gI h 4) (gI h 5) (gI h 6) (gI h 7) (gI h 8) (gI h 9) (gI h 10) (gI h 11) (gI h 12) (gI h 13) (gI h 14) (gI h 15) (gI h 16) (gS h 17) (gF h 18) (gF h 19) (gB h 20) (gN h 21) (gF h 22) (fun r0 r1 r2 r3 r4 r5 r6 r7 r8 r9 r10 r11 r12 r13 r14 r15 r16 r17 r18 r19 r20 => k .normal (parse_Text_L2_x0 r0 r1 r2 r3 r4 r5 r6 r7 r8 r9 r10 r11 r12 r13 r14 r15 r16 r17 r18 r19 r20))
theorem parse_Text_L2_at (h : List Hole) : BodyAt Tryd.prog (codeAt Tryd.f26 2) (stFill parse_Text_L2_p h) (parse_Text_L2_F h) := by
  have e : stFill parse_Text_L2_p h = parse_Text_L2_e (gI h 0) (gI h 1) (gI h 2) (gI h 3) (gI h 4) (gI h 5) (gI h 6) (gI h 7) (gI h 8) (gI h 9) (gI h 10) (gI h 11) (gI h 12) (gI h 13) (gI h 14) (gI h 15) (gI h 16) (gS h 17) (gF h 18) (gF h 19) (gB h 20) (gN h 21) (gF h 22) := by kernel_rfl
  rw [e]; exact bodyAt_of (C := parse_Text_L2_C parse_Cmd_write) ⟨ttOk, eqOk, runS_ok ttOk eqOk mixed (names_ok namesOk) (S := parse_Text_L2_S parse_Cmd_write) (sums_cons yes22_ok (sums_cons itoa_ok (sums_cons num_ok (sums_cons idx_ok (sums_cons join_ok (sums_cons split_ok (sums_cons (smOf_ok (alts_cons parse_Cmd_write_at alts_nil)) (sums_nil)))))))) (B := parse_Text_L2_B parse_Cmd_write) (hooks_nil) opts 40⟩ mixed (hooked_in (by kernel_rfl) blk_nil 2) fun k => parse_Text_L2_eq _ _ _ _ _ _ _ _ _ _ _ _ _ _ _ _ _ _ _ _ _ _ _ k
/- slices.Index[[]string,string]: loop 0 -/
def slices_Index_string_string_L0_S  : List (Nat × Sm) := [(22, yes), (34, itoaSm), (13, numSm), (94, idxSm), (33, joinSm), (52, splitSm)]
def slices_Index_string_string_L0_B  : Hooks := []
noncomputable def slices_Index_string_string_L0_C  : Ctx := { tt := tt, eqs := has eql, call := runS tt (has eql) Tryd.prog.funcs 18446744073709551616 (slices_Index_string_string_L0_S ) (slices_Index_string_string_L0_B ) opts 40, fuel := 18446744073709551616, blk := fun i => aget [] i, bor := opts.bor }
def slices_Index_string_string_L0_lo : Vx → List Nat := fun | .normal => [] | .exit j => (fun _ => []) j | .ret => [4]
def slices_Index_string_string_L0_h0 (a_1 a_2 : Int) (a_3 : Bool) (a_4 : Nat) (a_5 : Nat → Nat → PV) : St := { n := 19, m := 1, t := [(0, .v (.c (.own 0))), (1, .v (.c (.pv (.val (.string (⟨#[]⟩ : ByteArray)))))), (7, .v (.c (.pv (.val (.int .i64 a_1))))), (8, .v (.c (.pv (.val (.int .i64 a_2)))))], h := [(0, .parr false a_3 (.str .nil) 1 a_4 (a_5))], nx := 1 }
def slices_Index_string_string_L0_x0 (r0 : Int) (r1 : Bool) (r2 : Nat) (r3 : Nat → Nat → PV) : St := { n := 19, m := 1, t := [(4, .v (.c (.pv (.val (.int .i64 r0)))))], h := [(0, .parr false r1 (.str .nil) 1 r2 (r3))], nx := 1 }
def slices_Index_string_string_L0_x1 (r0 : Bool) (r1 : Nat) (r2 : Nat → Nat → PV) : St := { n := 19, m := 1, t := [], h := [(0, .parr false r0 (.str .nil) 1 r1 (r2))], nx := 1 }
def slices_Index_string_string_L0_s0 {α : Type}  (rec0 : Int → Int → Bool → Nat → (Nat → Nat → PV) → Option α) (k0 : Y33 α) (k1 : Y35 α) (a_1 a_2 : Int) (a_3 : Bool) (a_4 : Nat) (a_5 : Nat → Nat → PV) : Option α := bif decide (a_2 < a_1) then
  bif inb a_2 a_4 then
   bif ((⟨#[]⟩ : ByteArray).toList == (textOf (a_5 a_2.toNat 0)).toList) then
    k0 a_2 a_3 a_4 a_5
   else rec0 a_1 (IntKind.i64.wrap (a_2 + 1)) a_3 a_4 a_5
  else none /- test -/
 else k1 a_3 a_4 a_5
def slices_Index_string_string_L0_l0 {α : Type} (k0 : Y33 α) (k1 : Y35 α) : Nat → Int → Int → Bool → Nat → (Nat → Nat → PV) → Option α
  | 0 => fun _ _ _ _ _ => none
  | n + 1 => slices_Index_string_string_L0_s0  (slices_Index_string_string_L0_l0 k0 k1 n) k0 k1
theorem slices_Index_string_string_L0_s0_eq  (k : Kont) (n : Nat) (a_1 a_2 : Int) (a_3 : Bool) (a_4 : Nat) (a_5 : Nat → Nat → PV) : loopN (fun st k => exec (slices_Index_string_string_L0_C ) (loopBody (codeAt Tryd.f60 0)) st k) [0, 1, 7, 8] (loopK 0 (kn slices_Index_string_string_L0_lo k)) (n + 1) (slices_Index_string_string_L0_h0 a_1 a_2 a_3 a_4 a_5) = slices_Index_string_string_L0_s0  (fun a_1 a_2 a_3 a_4 a_5 => loopN (fun st k => exec (slices_Index_string_string_L0_C ) (loopBody (codeAt Tryd.f60 0)) st k) [0, 1, 7, 8] (loopK 0 (kn slices_Index_string_string_L0_lo k)) n (slices_Index_string_string_L0_h0 a_1 a_2 a_3 a_4 a_5)) (fun r0 r1 r2 r3 => k .ret (slices_Index_string_string_L0_x0 r0 r1 r2 r3)) (fun r0 r1 r2 => k .normal (slices_Index_string_string_L0_x1 r0 r1 r2)) a_1 a_2 a_3 a_4 a_5 := by kernel_rfl
theorem slices_Index_string_string_L0_l0_eq (k : Kont) : ∀ (n : Nat) (a_1 a_2 : Int) (a_3 : Bool) (a_4 : Nat) (a_5 : Nat → Nat → PV), loopN (fun st k => exec (slices_Index_string_string_L0_C ) (loopBody (codeAt Tryd.f60 0)) st k) [0, 1, 7, 8] (loopK 0 (kn slices_Index_string_string_L0_lo k)) n (slices_Index_string_string_L0_h0 a_1 a_2 a_3 a_4 a_5) = slices_Index_string_string_L0_l0 (fun r0 r1 r2 r3 => k .ret (slices_Index_string_string_L0_x0 r0 r1 r2 r3)) (fun r0 r1 r2 => k .normal (slices_Index_string_string_L0_x1 r0 r1 r2)) n a_1 a_2 a_3 a_4 a_5
  | 0, _, _, _, _, _ => rfl
  | n + 1, a_1, a_2, a_3, a_4, a_5 => by
    have r0 : (fun a_1 a_2 a_3 a_4 a_5 => loopN (fun st k => exec (slices_Index_string_string_L0_C ) (loopBody (codeAt Tryd.f60 0)) st k) [0, 1, 7, 8] (loopK 0 (kn slices_Index_string_string_L0_lo k)) n (slices_Index_string_string_L0_h0 a_1 a_2 a_3 a_4 a_5)) = slices_Index_string_string_L0_l0 (fun r0 r1 r2 r3 => k .ret (slices_Index_string_string_L0_x0 r0 r1 r2 r3)) (fun r0 r1 r2 => k .normal (slices_Index_string_string_L0_x1 r0 r1 r2)) n := funext fun a_1 => funext fun a_2 => funext fun a_3 => funext fun a_4 => funext fun a_5 => slices_Index_string_string_L0_l0_eq k n a_1 a_2 a_3 a_4 a_5
    exact (slices_Index_string_string_L0_s0_eq  k n a_1 a_2 a_3 a_4 a_5).trans (by rw [r0]; rfl)
def slices_Index_string_string_L0 {α : Type} (a_1 : Int) (a_2 : Bool) (a_3 : Nat) (a_4 : Nat → Nat → PV) (k0 : Y33 α) (k1 : Y35 α) : Option α := slices_Index_string_string_L0_l0 k0 k1 18446744073709551616 a_1 0 a_2 a_3 a_4
def slices_Index_string_string_L0_e (a_1 : Int) (a_2 : Bool) (a_3 : Nat) (a_4 : Nat → Nat → PV) : St := { n := 19, m := 1, t := [(0, .v (.c (.own 0))), (1, .v (.c (.pv (.val (.string (⟨#[]⟩ : ByteArray)))))), (7, .v (.c (.pv (.val (.int .i64 a_1))))), (8, .v (.c (.pv (.val (.int .i64 0)))))], h := [(0, .parr false a_2 (.str .nil) 1 a_3 (a_4))], nx := 1 }
theorem slices_Index_string_string_L0_eq (a_1 : Int) (a_2 : Bool) (a_3 : Nat) (a_4 : Nat → Nat → PV) (k : Kont) : exec (slices_Index_string_string_L0_C ) (codeAt Tryd.f60 0) (slices_Index_string_string_L0_e a_1 a_2 a_3 a_4) (kn slices_Index_string_string_L0_lo k) = slices_Index_string_string_L0 a_1 a_2 a_3 a_4 (fun r0 r1 r2 r3 => k .ret (slices_Index_string_string_L0_x0 r0 r1 r2 r3)) (fun r0 r1 r2 => k .normal (slices_Index_string_string_L0_x1 r0 r1 r2)) :=
  (by kernel_rfl : _ = loopN (fun st k => exec (slices_Index_string_string_L0_C ) (loopBody (codeAt Tryd.f60 0)) st k) [0, 1, 7, 8] (loopK 0 (kn slices_Index_string_string_L0_lo k)) 18446744073709551616 (slices_Index_string_string_L0_h0 a_1 0 a_2 a_3 a_4)).trans (slices_Index_string_string_L0_l0_eq k 18446744073709551616 a_1 0 a_2 a_3 a_4)
def slices_Index_string_string_L0_p : PSt := { n := 19, m := 1, t := [(0, .v (.c (.own 0))), (1, .v (.c (.pv (.strl [])))), (7, .v (.c (.pv (.int .i64 .h)))), (8, .v (.c (.pv (.int .i64 (.l 0)))))], h := [(0, .parr (.l false) .h (.str .nil) 1 .h)], nx := 1 }
def slices_Index_string_string_L0_F (h : List Hole) (k : Kont) : Option Out := slices_Index_string_string_L0 (gI h 0) (gB h 1) (gN h 2) (gF h 3) (fun r0 r1 r2 r3 => k .ret (slices_Index_string_string_L0_x0 r0 r1 r2 r3)) (fun r0 r1 r2 => k .normal (slices_Index_string_string_L0_x1 r0 r1 r2))
theorem slices_Index_string_string_L0_at (h : List Hole) : BodyAt Tryd.prog (codeAt Tryd.f60 0) (stFill slices_Index_string_string_L0_p h) (slices_Index_string_string_L0_F h) := by
  have e : stFill slices_Index_string_string_L0_p h = slices_Index_string_string_L0_e (gI h 0) (gB h 1) (gN h 2) (gF h 3) := by kernel_rfl
  rw [e]; exact bodyAt_of (C := slices_Index_string_string_L0_C ) ⟨ttOk, eqOk, runS_ok ttOk eqOk mixed (names_ok namesOk) (S := slices_Index_string_string_L0_S ) (sums_cons yes22_ok (sums_cons itoa_ok (sums_cons num_ok (sums_cons idx_ok (sums_cons join_ok (sums_cons split_ok (sums_nil))))))) (B := slices_Index_string_string_L0_B ) (hooks_nil) opts 40⟩ mixed (hooked_in (by kernel_rfl) blk_nil 0) fun k => slices_Index_string_string_L0_eq _ _ _ _ k
/- slices.Index[[]string,string] -/
def slices_Index_string_string_T {α : Type} (Gslices_Index_string_string_L0 : Y9 α) (a_1 : Bool) (a_2 : Nat) (a_3 : Nat → Nat → PV) (k0 : Y33 α) : Option α := Gslices_Index_string_string_L0 (a_2 : Int) a_1 a_2 a_3
  (fun r_4 r_5 r_6 r_7 => k0 r_4 r_5 r_6 r_7)
  (fun r_4 r_5 r_6 => k0 (-1) r_4 r_5 r_6)
def slices_Index_string_string {α : Type} (a_1 : Bool) (a_2 : Nat) (a_3 : Nat → Nat → PV) (k0 : Y33 α) : Option α := slices_Index_string_string_T slices_Index_string_string_L0 a_1 a_2 a_3 k0
def slices_Index_string_string_S (Gslices_Index_string_string_L0 : Y9 Out) : List (Nat × Sm) := [(22, yes), (34, itoaSm), (13, numSm), (94, idxSm), (33, joinSm), (52, splitSm)]
def slices_Index_string_string_B (Gslices_Index_string_string_L0 : Y9 Out) : Hooks := [(60, [(0, hookG [0, 1, 7, 8] [] (bkOf [(slices_Index_string_string_L0_p, fun h k => Gslices_Index_string_string_L0 (gI h 0) (gB h 1) (gN h 2) (gF h 3) (fun r0 r1 r2 r3 => k .ret (slices_Index_string_string_L0_x0 r0 r1 r2 r3)) (fun r0 r1 r2 => k .normal (slices_Index_string_string_L0_x1 r0 r1 r2)))]))])]
theorem slices_Index_string_string_eq (Gslices_Index_string_string_L0 : Y9 Out) (a_1 : Bool) (a_2 : Nat) (a_3 : Nat → Nat → PV) (k : FK) : runS tt (has eql) Tryd.prog.funcs 18446744073709551616 (slices_Index_string_string_S Gslices_Index_string_string_L0) (slices_Index_string_string_B Gslices_Index_string_string_L0) opts 40 60 [.v (.c (.own 0)), .v (.c (.pv (.val (.string (⟨#[]⟩ : ByteArray)))))] [.parr false a_1 (.str .nil) 1 a_2 (a_3)] k = slices_Index_string_string_T Gslices_Index_string_string_L0 a_1 a_2 a_3 (fun r0 r1 r2 r3 => k (.v (.c (.pv (.val (.int .i64 r0))))) [.parr false r1 (.str .nil) 1 r2 (r3)]) := by kernel_rfl
def slices_Index_string_string_p : PAr := ⟨[.v (.c (.own 0)), .v (.c (.pv (.strl [])))], [.parr (.l false) .h (.str .nil) 1 .h]⟩
def slices_Index_string_string_F (h : List Hole) (k : FK) : Option Out := slices_Index_string_string (gB h 0) (gN h 1) (gF h 2) (fun r0 r1 r2 r3 => k (.v (.c (.pv (.val (.int .i64 r0))))) [.parr false r1 (.str .nil) 1 r2 (r3)])
theorem slices_Index_string_string_at (h : List Hole) : CallAt Tryd.prog 60 (arFill slices_Index_string_string_p h).1 (arFill slices_Index_string_string_p h).2 (slices_Index_string_string_F h) := by
  have e : arFill slices_Index_string_string_p h = ([.v (.c (.own 0)), .v (.c (.pv (.val (.string (⟨#[]⟩ : ByteArray)))))], [.parr false (gB h 0) (.str .nil) 1 (gN h 1) ((gF h 2))]) := by kernel_rfl
  rw [e]; exact callAt_of (runS_ok ttOk eqOk mixed (names_ok namesOk) (S := slices_Index_string_string_S slices_Index_string_string_L0) (sums_cons yes22_ok (sums_cons itoa_ok (sums_cons num_ok (sums_cons idx_ok (sums_cons join_ok (sums_cons split_ok (sums_nil))))))) (B := slices_Index_string_string_B slices_Index_string_string_L0) (hooks_add (fn := Tryd.f60) (by kernel_rfl) (by kernel_rfl) (blk_cons (bkOf_ok (blts_cons slices_Index_string_string_L0_at blts_nil)) blk_nil) (hooks_nil)) opts 40) fun k => slices_Index_string_string_eq slices_Index_string_string_L0 _ _ _ k
/- weirgate/parse.small -/
def parse_small_T {α : Type}  (a_1 : ByteArray) (k0 : Int → Bool → Option α) (k1 : Int → Option α) : Option α := bif Nat.ble a_1.size 281474976710656 then
  bif numOk a_1 then
   k0 (numI a_1) (decide ((numI a_1) ≤ 255))
  else k1 (numI a_1)
 else none /- test -/
def parse_small {α : Type} (a_1 : ByteArray) (k0 : Int → Bool → Option α) (k1 : Int → Option α) : Option α := parse_small_T  a_1 k0 k1
def parse_small_S  : List (Nat × Sm) := [(22, yes), (34, itoaSm), (13, numSm), (94, idxSm), (33, joinSm), (52, splitSm)]
def parse_small_B  : Hooks := []
theorem parse_small_eq  (a_1 : ByteArray) (k : FK) : runS tt (has eql) Tryd.prog.funcs 18446744073709551616 (parse_small_S ) (parse_small_B ) opts 40 76 [.v (.c (.pv (.val (.string a_1)))), .v (.c (.pv (.val (.int .i64 255))))] [] k = parse_small_T  a_1 (fun r0 r1 => k (.tup [.c (.pv (.val (.int .i64 r0))), .c (.pv (.val (.bool r1)))]) []) (fun r0 => k (.tup [.c (.pv (.val (.int .i64 r0))), .c (.pv (.val (.bool false)))]) []) := by kernel_rfl
def parse_small_p : PAr := ⟨[.v (.c (.pv (.str))), .v (.c (.pv (.int .i64 (.l 255))))], []⟩
def parse_small_F (h : List Hole) (k : FK) : Option Out := parse_small (gS h 0) (fun r0 r1 => k (.tup [.c (.pv (.val (.int .i64 r0))), .c (.pv (.val (.bool r1)))]) []) (fun r0 => k (.tup [.c (.pv (.val (.int .i64 r0))), .c (.pv (.val (.bool false)))]) [])
theorem parse_small_at (h : List Hole) : CallAt Tryd.prog 76 (arFill parse_small_p h).1 (arFill parse_small_p h).2 (parse_small_F h) := by
  have e : arFill parse_small_p h = ([.v (.c (.pv (.val (.string (gS h 0))))), .v (.c (.pv (.val (.int .i64 255))))], []) := by kernel_rfl
  rw [e]; exact callAt_of (runS_ok ttOk eqOk mixed (names_ok namesOk) (S := parse_small_S ) (sums_cons yes22_ok (sums_cons itoa_ok (sums_cons num_ok (sums_cons idx_ok (sums_cons join_ok (sums_cons split_ok (sums_nil))))))) (B := parse_small_B ) (hooks_nil) opts 40) fun k => parse_small_eq  _ k
/- weirgate/parse.small -/
def parse_small_v1_T {α : Type}  (a_1 : ByteArray) (k0 : Int → Bool → Option α) (k1 : Int → Option α) : Option α := bif Nat.ble a_1.size 281474976710656 then
  bif numOk a_1 then
   k0 (numI a_1) (decide ((numI a_1) ≤ 65535))
  else k1 (numI a_1)
 else none /- test -/
def parse_small_v1 {α : Type} (a_1 : ByteArray) (k0 : Int → Bool → Option α) (k1 : Int → Option α) : Option α := parse_small_v1_T  a_1 k0 k1
def parse_small_v1_S  : List (Nat × Sm) := [(22, yes), (34, itoaSm), (13, numSm), (94, idxSm), (33, joinSm), (52, splitSm)]
def parse_small_v1_B  : Hooks := []
theorem parse_small_v1_eq  (a_1 : ByteArray) (k : FK) : runS tt (has eql) Tryd.prog.funcs 18446744073709551616 (parse_small_v1_S ) (parse_small_v1_B ) opts 40 76 [.v (.c (.pv (.val (.string a_1)))), .v (.c (.pv (.val (.int .i64 65535))))] [] k = parse_small_v1_T  a_1 (fun r0 r1 => k (.tup [.c (.pv (.val (.int .i64 r0))), .c (.pv (.val (.bool r1)))]) []) (fun r0 => k (.tup [.c (.pv (.val (.int .i64 r0))), .c (.pv (.val (.bool false)))]) []) := by kernel_rfl
def parse_small_v1_p : PAr := ⟨[.v (.c (.pv (.str))), .v (.c (.pv (.int .i64 (.l 65535))))], []⟩
def parse_small_v1_F (h : List Hole) (k : FK) : Option Out := parse_small_v1 (gS h 0) (fun r0 r1 => k (.tup [.c (.pv (.val (.int .i64 r0))), .c (.pv (.val (.bool r1)))]) []) (fun r0 => k (.tup [.c (.pv (.val (.int .i64 r0))), .c (.pv (.val (.bool false)))]) [])
theorem parse_small_v1_at (h : List Hole) : CallAt Tryd.prog 76 (arFill parse_small_v1_p h).1 (arFill parse_small_v1_p h).2 (parse_small_v1_F h) := by
  have e : arFill parse_small_v1_p h = ([.v (.c (.pv (.val (.string (gS h 0))))), .v (.c (.pv (.val (.int .i64 65535))))], []) := by kernel_rfl
  rw [e]; exact callAt_of (runS_ok ttOk eqOk mixed (names_ok namesOk) (S := parse_small_v1_S ) (sums_cons yes22_ok (sums_cons itoa_ok (sums_cons num_ok (sums_cons idx_ok (sums_cons join_ok (sums_cons split_ok (sums_nil))))))) (B := parse_small_v1_B ) (hooks_nil) opts 40) fun k => parse_small_v1_eq  _ k
def e17 (x0 : Nat → Nat → PV) : Int := Lib.indexByte (⟨#[48, 49, 50, 51, 52, 53, 54, 55, 56, 57, 97, 98, 99, 100, 101, 102]⟩ : ByteArray).data.toList (bt (textOf (x0 0 0)) 0).toNat.toUInt8
def e18 (x0 : Nat → Nat → PV) : Int := Lib.indexByte (⟨#[48, 49, 50, 51, 52, 53, 54, 55, 56, 57, 97, 98, 99, 100, 101, 102]⟩ : ByteArray).data.toList (bt (textOf (x0 0 0)) 1).toNat.toUInt8
def e19 (x0 : Nat → Nat → PV) : Nat → Nat → PV := rowOf 1 [.val (.int .u8 (IntKind.u8.wrap (bits .or .i64 (shlI .i64 (e17 x0) 4) (e18 x0))))]
def e20 (x0 : Nat → Nat → PV) (x1 : Int) : Int := Lib.indexByte (⟨#[48, 49, 50, 51, 52, 53, 54, 55, 56, 57, 97, 98, 99, 100, 101, 102]⟩ : ByteArray).data.toList (bt (textOf (x0 x1.toNat 0)) 0).toNat.toUInt8
def e21 (x0 : Nat → Nat → PV) (x1 : Int) : Int := Lib.indexByte (⟨#[48, 49, 50, 51, 52, 53, 54, 55, 56, 57, 97, 98, 99, 100, 101, 102]⟩ : ByteArray).data.toList (bt (textOf (x0 x1.toNat 0)) 1).toNat.toUInt8
def e22 (x0 : Nat → Nat → PV) (x1 : Int) : Nat → Nat → PV := rowOf 1 [.val (.int .u8 (IntKind.u8.wrap (bits .or .i64 (shlI .i64 (e20 x0 x1) 4) (e21 x0 x1))))]
/- weirgate/mac.Parse: loop 0 -/
def mac_Parse_L0_S  : List (Nat × Sm) := [(22, yes), (34, itoaSm), (13, numSm), (94, idxSm), (33, joinSm), (52, splitSm)]
def mac_Parse_L0_B  : Hooks := []
noncomputable def mac_Parse_L0_C  : Ctx := { tt := tt, eqs := has eql, call := runS tt (has eql) Tryd.prog.funcs 18446744073709551616 (mac_Parse_L0_S ) (mac_Parse_L0_B ) opts 40, fuel := 18446744073709551616, blk := fun i => aget [] i, bor := opts.bor }
def mac_Parse_L0_lo : Vx → List Nat := fun | .normal => [4] | .exit j => (fun _ => []) j | .ret => [2, 3]
def mac_Parse_L0_h0 (a_1 a_2 : Int) (a_3 : Bool) (a_4 : Nat) (a_5 : Nat → Nat → PV) (a_6 : Nat) (a_7 : Nat → Nat → PV) : St := { n := 44, m := 0, t := [(4, .v (.c (.own 0))), (10, .v (.c (.own 1))), (11, .v (.c (.pv (.val (.int .i64 a_1))))), (12, .v (.c (.pv (.val (.int .i64 a_2)))))], h := [(0, .parr false a_3 (.int .u8 .nil) 1 a_4 (a_5)), (1, .parr false false (.str .nil) 1 a_6 (a_7))], nx := 2 }
def mac_Parse_L0_x0  : St := { n := 44, m := 0, t := [(2, .v (.c (.pv (.val (.int .u64 0))))), (3, .v (.c (.pv (.val (.int .i64 11)))))], h := [], nx := 0 }
def mac_Parse_L0_x1 (r0 : Bool) (r1 : Nat) (r2 : Nat → Nat → PV) : St := { n := 44, m := 0, t := [(4, .v (.c (.own 0)))], h := [(0, .parr false r0 (.int .u8 .nil) 1 r1 (r2))], nx := 1 }
def mac_Parse_L0_s0 {α : Type}  (rec0 : Y22 α) (k0 : Option α) (k1 : Y35 α) (a_1 a_2 : Int) (a_3 : Bool) (a_4 : Nat) (a_5 : Nat → Nat → PV) (a_6 : Nat) (a_7 : Nat → Nat → PV) : Option α := bif decide (a_2 < a_1) then
  bif inb a_2 a_6 then
   bif ((((textOf (a_7 a_2.toNat 0)).size : Nat) : Int) != 2) then
    k0
   else bif inb 0 ((textOf (a_7 a_2.toNat 0)).size) then
    bif inb 1 ((textOf (a_7 a_2.toNat 0)).size) then
     bif decide ((e20 a_7 a_2) < 0) then
      k0
     else bif decide ((e21 a_7 a_2) < 0) then
      k0
     else bif Nat.ble ((a_4 + 1) * 1) bound then
      rec0 a_1 (IntKind.i64.wrap (a_2 + 1)) (a_3 && false) (a_4 + 1) (catf a_4 (a_5) (e22 a_7 a_2)) a_6 a_7
     else none /- test -/
    else none /- test -/
   else none /- test -/
  else none /- test -/
 else k1 a_3 a_4 a_5
def mac_Parse_L0_l0 {α : Type} (k0 : Option α) (k1 : Y35 α) : Nat → Int → Int → Bool → Nat → (Nat → Nat → PV) → Nat → (Nat → Nat → PV) → Option α
  | 0 => fun _ _ _ _ _ _ _ => none
  | n + 1 => mac_Parse_L0_s0  (mac_Parse_L0_l0 k0 k1 n) k0 k1
theorem mac_Parse_L0_s0_eq  (k : Kont) (n : Nat) (a_1 a_2 : Int) (a_3 : Bool) (a_4 : Nat) (a_5 : Nat → Nat → PV) (a_6 : Nat) (a_7 : Nat → Nat → PV) : loopN (fun st k => exec (mac_Parse_L0_C ) (loopBody (codeAt Tryd.f77 0)) st k) [4, 10, 11, 12] (loopK 0 (kn mac_Parse_L0_lo k)) (n + 1) (mac_Parse_L0_h0 a_1 a_2 a_3 a_4 a_5 a_6 a_7) = mac_Parse_L0_s0  (fun a_1 a_2 a_3 a_4 a_5 a_6 a_7 => loopN (fun st k => exec (mac_Parse_L0_C ) (loopBody (codeAt Tryd.f77 0)) st k) [4, 10, 11, 12] (loopK 0 (kn mac_Parse_L0_lo k)) n (mac_Parse_L0_h0 a_1 a_2 a_3 a_4 a_5 a_6 a_7)) (k .ret (mac_Parse_L0_x0)) (fun r0 r1 r2 => k .normal (mac_Parse_L0_x1 r0 r1 r2)) a_1 a_2 a_3 a_4 a_5 a_6 a_7 := by kernel_rfl
theorem mac_Parse_L0_l0_eq (k : Kont) : ∀ (n : Nat) (a_1 a_2 : Int) (a_3 : Bool) (a_4 : Nat) (a_5 : Nat → Nat → PV) (a_6 : Nat) (a_7 : Nat → Nat → PV), loopN (fun st k => exec (mac_Parse_L0_C ) (loopBody (codeAt Tryd.f77 0)) st k) [4, 10, 11, 12] (loopK 0 (kn mac_Parse_L0_lo k)) n (mac_Parse_L0_h0 a_1 a_2 a_3 a_4 a_5 a_6 a_7) = mac_Parse_L0_l0 (k .ret (mac_Parse_L0_x0)) (fun r0 r1 r2 => k .normal (mac_Parse_L0_x1 r0 r1 r2)) n a_1 a_2 a_3 a_4 a_5 a_6 a_7
  | 0, _, _, _, _, _, _, _ => rfl
  | n + 1, a_1, a_2, a_3, a_4, a_5, a_6, a_7 => by
    have r0 : (fun a_1 a_2 a_3 a_4 a_5 a_6 a_7 => loopN (fun st k => exec (mac_Parse_L0_C ) (loopBody (codeAt Tryd.f77 0)) st k) [4, 10, 11, 12] (loopK 0 (kn mac_Parse_L0_lo k)) n (mac_Parse_L0_h0 a_1 a_2 a_3 a_4 a_5 a_6 a_7)) = mac_Parse_L0_l0 (k .ret (mac_Parse_L0_x0)) (fun r0 r1 r2 => k .normal (mac_Parse_L0_x1 r0 r1 r2)) n := funext fun a_1 => funext fun a_2 => funext fun a_3 => funext fun a_4 => funext fun a_5 => funext fun a_6 => funext fun a_7 => mac_Parse_L0_l0_eq k n a_1 a_2 a_3 a_4 a_5 a_6 a_7
    exact (mac_Parse_L0_s0_eq  k n a_1 a_2 a_3 a_4 a_5 a_6 a_7).trans (by rw [r0]; rfl)
def mac_Parse_L0 {α : Type} (a_1 : Int) (a_2 : Nat → Nat → PV) (a_3 : Nat) (a_4 : Nat → Nat → PV) (k0 : Option α) (k1 : Y35 α) : Option α := mac_Parse_L0_l0 k0 k1 18446744073709551616 a_1 0 true 0 a_2 a_3 a_4
def mac_Parse_L0_e (a_1 : Int) (a_2 : Nat → Nat → PV) (a_3 : Nat) (a_4 : Nat → Nat → PV) : St := { n := 44, m := 0, t := [(4, .v (.c (.own 0))), (10, .v (.c (.own 1))), (11, .v (.c (.pv (.val (.int .i64 a_1))))), (12, .v (.c (.pv (.val (.int .i64 0)))))], h := [(0, .parr false true (.int .u8 .nil) 1 0 (a_2)), (1, .parr false false (.str .nil) 1 a_3 (a_4))], nx := 2 }
theorem mac_Parse_L0_eq (a_1 : Int) (a_2 : Nat → Nat → PV) (a_3 : Nat) (a_4 : Nat → Nat → PV) (k : Kont) : exec (mac_Parse_L0_C ) (codeAt Tryd.f77 0) (mac_Parse_L0_e a_1 a_2 a_3 a_4) (kn mac_Parse_L0_lo k) = mac_Parse_L0 a_1 a_2 a_3 a_4 (k .ret (mac_Parse_L0_x0)) (fun r0 r1 r2 => k .normal (mac_Parse_L0_x1 r0 r1 r2)) :=
  (by kernel_rfl : _ = loopN (fun st k => exec (mac_Parse_L0_C ) (loopBody (codeAt Tryd.f77 0)) st k) [4, 10, 11, 12] (loopK 0 (kn mac_Parse_L0_lo k)) 18446744073709551616 (mac_Parse_L0_h0 a_1 0 true 0 a_2 a_3 a_4)).trans (mac_Parse_L0_l0_eq k 18446744073709551616 a_1 0 true 0 a_2 a_3 a_4)
def mac_Parse_L0_p : PSt := { n := 44, m := 0, t := [(4, .v (.c (.own 0))), (10, .v (.c (.own 1))), (11, .v (.c (.pv (.int .i64 .h)))), (12, .v (.c (.pv (.int .i64 (.l 0)))))], h := [(0, .parr (.l false) (.l true) (.int .u8 .nil) 1 (.l 0)), (1, .parr (.l false) (.l false) (.str .nil) 1 .h)], nx := 2 }
def mac_Parse_L0_F (h : List Hole) (k : Kont) : Option Out := mac_Parse_L0 (gI h 0) (gF h 1) (gN h 2) (gF h 3) (k .ret (mac_Parse_L0_x0)) (fun r0 r1 r2 => k .normal (mac_Parse_L0_x1 r0 r1 r2))
theorem mac_Parse_L0_at (h : List Hole) : BodyAt Tryd.prog (codeAt Tryd.f77 0) (stFill mac_Parse_L0_p h) (mac_Parse_L0_F h) := by
  have e : stFill mac_Parse_L0_p h = mac_Parse_L0_e (gI h 0) (gF h 1) (gN h 2) (gF h 3) := by kernel_rfl
  rw [e]; exact bodyAt_of (C := mac_Parse_L0_C ) ⟨ttOk, eqOk, runS_ok ttOk eqOk mixed (names_ok namesOk) (S := mac_Parse_L0_S ) (sums_cons yes22_ok (sums_cons itoa_ok (sums_cons num_ok (sums_cons idx_ok (sums_cons join_ok (sums_cons split_ok (sums_nil))))))) (B := mac_Parse_L0_B ) (hooks_nil) opts 40⟩ mixed (hooked_in (by kernel_rfl) blk_nil 0) fun k => mac_Parse_L0_eq _ _ _ _ k
/- weirgate/mac.Of: loop 0 -/
def mac_Of_L0_S  : List (Nat × Sm) := [(22, yes), (34, itoaSm), (13, numSm), (94, idxSm), (33, joinSm), (52, splitSm)]
def mac_Of_L0_B  : Hooks := []
noncomputable def mac_Of_L0_C  : Ctx := { tt := tt, eqs := has eql, call := runS tt (has eql) Tryd.prog.funcs 18446744073709551616 (mac_Of_L0_S ) (mac_Of_L0_B ) opts 40, fuel := 18446744073709551616, blk := fun i => aget [] i, bor := opts.bor }
def mac_Of_L0_lo : Vx → List Nat := fun | .normal => [4] | .exit j => (fun _ => []) j | .ret => [2, 3]
def mac_Of_L0_h0 (a_1 : Int) (a_2 : Bool) (a_3 : Nat) (a_4 : Nat → Nat → PV) (a_5 a_6 : Int) : St := { n := 23, m := 0, t := [(4, .v (.c (.pv (.val (.int .u64 a_1))))), (10, .v (.c (.pv (.sl a_2 (.int .u8 .nil) 1 a_3 (a_4))))), (11, .v (.c (.pv (.val (.int .i64 a_5))))), (12, .v (.c (.pv (.val (.int .i64 a_6)))))], h := [], nx := 0 }
def mac_Of_L0_x0 (r0 : Int) : St := { n := 23, m := 0, t := [(4, .v (.c (.pv (.val (.int .u64 r0)))))], h := [], nx := 0 }
def mac_Of_L0_s0 {α : Type}  (rec0 : Int → Bool → Nat → (Nat → Nat → PV) → Int → Int → Option α) (k0 : Int → Option α) (a_1 : Int) (a_2 : Bool) (a_3 : Nat) (a_4 : Nat → Nat → PV) (a_5 a_6 : Int) : Option α := bif decide (a_6 < a_5) then
  bif inb a_6 a_3 then
   rec0 (bits .or .u64 (shlI .u64 a_1 8) (IntKind.u64.wrap (numOf (a_4 a_6.toNat 0)))) a_2 a_3 a_4 a_5 (IntKind.i64.wrap (a_6 + 1))
  else none /- test -/
 else k0 a_1
def mac_Of_L0_l0 {α : Type} (k0 : Int → Option α) : Nat → Int → Bool → Nat → (Nat → Nat → PV) → Int → Int → Option α
  | 0 => fun _ _ _ _ _ _ => none
  | n + 1 => mac_Of_L0_s0  (mac_Of_L0_l0 k0 n) k0
theorem mac_Of_L0_s0_eq  (k : Kont) (n : Nat) (a_1 : Int) (a_2 : Bool) (a_3 : Nat) (a_4 : Nat → Nat → PV) (a_5 a_6 : Int) : loopN (fun st k => exec (mac_Of_L0_C ) (loopBody (codeAt Tryd.f95 0)) st k) [4, 10, 11, 12] (loopK 0 (kn mac_Of_L0_lo k)) (n + 1) (mac_Of_L0_h0 a_1 a_2 a_3 a_4 a_5 a_6) = mac_Of_L0_s0  (fun a_1 a_2 a_3 a_4 a_5 a_6 => loopN (fun st k => exec (mac_Of_L0_C ) (loopBody (codeAt Tryd.f95 0)) st k) [4, 10, 11, 12] (loopK 0 (kn mac_Of_L0_lo k)) n (mac_Of_L0_h0 a_1 a_2 a_3 a_4 a_5 a_6)) (fun r0 => k .normal (mac_Of_L0_x0 r0)) a_1 a_2 a_3 a_4 a_5 a_6 := by kernel_rfl
theorem mac_Of_L0_l0_eq (k : Kont) : ∀ (n : Nat) (a_1 : Int) (a_2 : Bool) (a_3 : Nat) (a_4 : Nat → Nat → PV) (a_5 a_6 : Int), loopN (fun st k => exec (mac_Of_L0_C ) (loopBody (codeAt Tryd.f95 0)) st k) [4, 10, 11, 12] (loopK 0 (kn mac_Of_L0_lo k)) n (mac_Of_L0_h0 a_1 a_2 a_3 a_4 a_5 a_6) = mac_Of_L0_l0 (fun r0 => k .normal (mac_Of_L0_x0 r0)) n a_1 a_2 a_3 a_4 a_5 a_6
  | 0, _, _, _, _, _, _ => rfl
  | n + 1, a_1, a_2, a_3, a_4, a_5, a_6 => by
    have r0 : (fun a_1 a_2 a_3 a_4 a_5 a_6 => loopN (fun st k => exec (mac_Of_L0_C ) (loopBody (codeAt Tryd.f95 0)) st k) [4, 10, 11, 12] (loopK 0 (kn mac_Of_L0_lo k)) n (mac_Of_L0_h0 a_1 a_2 a_3 a_4 a_5 a_6)) = mac_Of_L0_l0 (fun r0 => k .normal (mac_Of_L0_x0 r0)) n := funext fun a_1 => funext fun a_2 => funext fun a_3 => funext fun a_4 => funext fun a_5 => funext fun a_6 => mac_Of_L0_l0_eq k n a_1 a_2 a_3 a_4 a_5 a_6
    exact (mac_Of_L0_s0_eq  k n a_1 a_2 a_3 a_4 a_5 a_6).trans (by rw [r0]; rfl)
def mac_Of_L0 {α : Type} (a_1 : Bool) (a_2 : Nat) (a_3 : Nat → Nat → PV) (a_4 : Int) (k0 : Int → Option α) : Option α := mac_Of_L0_l0 k0 18446744073709551616 0 a_1 a_2 a_3 a_4 0
def mac_Of_L0_e (a_1 : Bool) (a_2 : Nat) (a_3 : Nat → Nat → PV) (a_4 : Int) : St := { n := 23, m := 0, t := [(4, .v (.c (.pv (.val (.int .u64 0))))), (10, .v (.c (.pv (.sl a_1 (.int .u8 .nil) 1 a_2 (a_3))))), (11, .v (.c (.pv (.val (.int .i64 a_4))))), (12, .v (.c (.pv (.val (.int .i64 0)))))], h := [], nx := 0 }
theorem mac_Of_L0_eq (a_1 : Bool) (a_2 : Nat) (a_3 : Nat → Nat → PV) (a_4 : Int) (k : Kont) : exec (mac_Of_L0_C ) (codeAt Tryd.f95 0) (mac_Of_L0_e a_1 a_2 a_3 a_4) (kn mac_Of_L0_lo k) = mac_Of_L0 a_1 a_2 a_3 a_4 (fun r0 => k .normal (mac_Of_L0_x0 r0)) :=
  (by kernel_rfl : _ = loopN (fun st k => exec (mac_Of_L0_C ) (loopBody (codeAt Tryd.f95 0)) st k) [4, 10, 11, 12] (loopK 0 (kn mac_Of_L0_lo k)) 18446744073709551616 (mac_Of_L0_h0 0 a_1 a_2 a_3 a_4 0)).trans (mac_Of_L0_l0_eq k 18446744073709551616 0 a_1 a_2 a_3 a_4 0)
def mac_Of_L0_p : PSt := { n := 23, m := 0, t := [(4, .v (.c (.pv (.int .u64 (.l 0))))), (10, .v (.c (.pv (.sl .h (.int .u8 .nil) 1 .h)))), (11, .v (.c (.pv (.int .i64 .h)))), (12, .v (.c (.pv (.int .i64 (.l 0)))))], h := [], nx := 0 }
def mac_Of_L0_F (h : List Hole) (k : Kont) : Option Out := mac_Of_L0 (gB h 0) (gN h 1) (gF h 2) (gI h 3) (fun r0 => k .normal (mac_Of_L0_x0 r0))
theorem mac_Of_L0_at (h : List Hole) : BodyAt Tryd.prog (codeAt Tryd.f95 0) (stFill mac_Of_L0_p h) (mac_Of_L0_F h) := by
  have e : stFill mac_Of_L0_p h = mac_Of_L0_e (gB h 0) (gN h 1) (gF h 2) (gI h 3) := by kernel_rfl
  rw [e]; exact bodyAt_of (C := mac_Of_L0_C ) ⟨ttOk, eqOk, runS_ok ttOk eqOk mixed (names_ok namesOk) (S := mac_Of_L0_S ) (sums_cons yes22_ok (sums_cons itoa_ok (sums_cons num_ok (sums_cons idx_ok (sums_cons join_ok (sums_cons split_ok (sums_nil))))))) (B := mac_Of_L0_B ) (hooks_nil) opts 40⟩ mixed (hooked_in (by kernel_rfl) blk_nil 0) fun k => mac_Of_L0_eq _ _ _ _ k
/- weirgate/mac.Of -/
def mac_Of_T {α : Type} (Gmac_Of_L0 : Y25 α) (a_1 : Bool) (a_2 : Nat) (a_3 : Nat → Nat → PV) (k0 : Int → Int → Option α) : Option α := bif ((a_2 : Int) != 6) then
  k0 0 11
 else Gmac_Of_L0 a_1 a_2 a_3 (a_2 : Int)
  (fun r_4 => k0 r_4 0)
def mac_Of {α : Type} (a_1 : Bool) (a_2 : Nat) (a_3 : Nat → Nat → PV) (k0 : Int → Int → Option α) : Option α := mac_Of_T mac_Of_L0 a_1 a_2 a_3 k0
def mac_Of_S (Gmac_Of_L0 : Y25 Out) : List (Nat × Sm) := [(22, yes), (34, itoaSm), (13, numSm), (94, idxSm), (33, joinSm), (52, splitSm)]
def mac_Of_B (Gmac_Of_L0 : Y25 Out) : Hooks := [(95, [(0, hookG [4, 10, 11, 12] [] (bkOf [(mac_Of_L0_p, fun h k => Gmac_Of_L0 (gB h 0) (gN h 1) (gF h 2) (gI h 3) (fun r0 => k .normal (mac_Of_L0_x0 r0)))]))])]
theorem mac_Of_eq (Gmac_Of_L0 : Y25 Out) (a_1 : Bool) (a_2 : Nat) (a_3 : Nat → Nat → PV) (k : FK) : runS tt (has eql) Tryd.prog.funcs 18446744073709551616 (mac_Of_S Gmac_Of_L0) (mac_Of_B Gmac_Of_L0) opts 40 95 [.v (.c (.pv (.sl a_1 (.int .u8 .nil) 1 a_2 (a_3))))] [] k = mac_Of_T Gmac_Of_L0 a_1 a_2 a_3 (fun r0 r1 => k (.tup [.c (.pv (.val (.int .u64 r0))), .c (.pv (.val (.int .i64 r1)))]) []) := by kernel_rfl
def mac_Of_p : PAr := ⟨[.v (.c (.pv (.sl .h (.int .u8 .nil) 1 .h)))], []⟩
def mac_Of_F (h : List Hole) (k : FK) : Option Out := mac_Of (gB h 0) (gN h 1) (gF h 2) (fun r0 r1 => k (.tup [.c (.pv (.val (.int .u64 r0))), .c (.pv (.val (.int .i64 r1)))]) [])
theorem mac_Of_at (h : List Hole) : CallAt Tryd.prog 95 (arFill mac_Of_p h).1 (arFill mac_Of_p h).2 (mac_Of_F h) := by
  have e : arFill mac_Of_p h = ([.v (.c (.pv (.sl (gB h 0) (.int .u8 .nil) 1 (gN h 1) ((gF h 2)))))], []) := by kernel_rfl
  rw [e]; exact callAt_of (runS_ok ttOk eqOk mixed (names_ok namesOk) (S := mac_Of_S mac_Of_L0) (sums_cons yes22_ok (sums_cons itoa_ok (sums_cons num_ok (sums_cons idx_ok (sums_cons join_ok (sums_cons split_ok (sums_nil))))))) (B := mac_Of_B mac_Of_L0) (hooks_add (fn := Tryd.f95) (by kernel_rfl) (by kernel_rfl) (blk_cons (bkOf_ok (blts_cons mac_Of_L0_at blts_nil)) blk_nil) (hooks_nil)) opts 40) fun k => mac_Of_eq mac_Of_L0 _ _ _ k
/- weirgate/mac.Parse -/
def mac_Parse_T {α : Type} (Gmac_Parse_L0 : Y10 α) (Gmac_Of : Y26 α) (a_1 : ByteArray) (k0 : Int → Int → Option α) : Option α := bif splitOk a_1 (⟨#[58]⟩ : ByteArray) then
  Gmac_Parse_L0 ((splitN a_1 (⟨#[58]⟩ : ByteArray) : Nat) : Int) (fun _ _ => .val undef) (splitN a_1 (⟨#[58]⟩ : ByteArray)) (splitRow a_1 (⟨#[58]⟩ : ByteArray))
   (k0 0 11)
   (fun r_2 r_3 r_4 => Gmac_Of r_2 r_3 r_4
    (fun r_5 r_6 => k0 r_5 r_6))
 else none /- test -/
def mac_Parse {α : Type} (a_1 : ByteArray) (k0 : Int → Int → Option α) : Option α := mac_Parse_T mac_Parse_L0 mac_Of a_1 k0
def mac_Parse_S (Gmac_Parse_L0 : Y10 Out) (Gmac_Of : Y26 Out) : List (Nat × Sm) := [(22, yes), (34, itoaSm), (13, numSm), (94, idxSm), (33, joinSm), (52, splitSm), (95, smOf [(mac_Of_p, fun h k => Gmac_Of (gB h 0) (gN h 1) (gF h 2) (fun r0 r1 => k (.tup [.c (.pv (.val (.int .u64 r0))), .c (.pv (.val (.int .i64 r1)))]) []))])]
def mac_Parse_B (Gmac_Parse_L0 : Y10 Out) (Gmac_Of : Y26 Out) : Hooks := [(77, [(0, hookG [4, 10, 11, 12] [(4, (.int .u8 .nil), 1)] (bkOf [(mac_Parse_L0_p, fun h k => Gmac_Parse_L0 (gI h 0) (gF h 1) (gN h 2) (gF h 3) (k .ret (mac_Parse_L0_x0)) (fun r0 r1 r2 => k .normal (mac_Parse_L0_x1 r0 r1 r2)))]))])]
theorem mac_Parse_eq (Gmac_Parse_L0 : Y10 Out) (Gmac_Of : Y26 Out) (a_1 : ByteArray) (k : FK) : runS tt (has eql) Tryd.prog.funcs 18446744073709551616 (mac_Parse_S Gmac_Parse_L0 Gmac_Of) (mac_Parse_B Gmac_Parse_L0 Gmac_Of) opts 40 77 [.v (.c (.pv (.val (.string a_1))))] [] k = mac_Parse_T Gmac_Parse_L0 Gmac_Of a_1 (fun r0 r1 => k (.tup [.c (.pv (.val (.int .u64 r0))), .c (.pv (.val (.int .i64 r1)))]) []) := by kernel_rfl
def mac_Parse_p : PAr := ⟨[.v (.c (.pv (.str)))], []⟩
def mac_Parse_F (h : List Hole) (k : FK) : Option Out := mac_Parse (gS h 0) (fun r0 r1 => k (.tup [.c (.pv (.val (.int .u64 r0))), .c (.pv (.val (.int .i64 r1)))]) [])
theorem mac_Parse_at (h : List Hole) : CallAt Tryd.prog 77 (arFill mac_Parse_p h).1 (arFill mac_Parse_p h).2 (mac_Parse_F h) := by
  have e : arFill mac_Parse_p h = ([.v (.c (.pv (.val (.string (gS h 0)))))], []) := by kernel_rfl
  rw [e]; exact callAt_of (runS_ok ttOk eqOk mixed (names_ok namesOk) (S := mac_Parse_S mac_Parse_L0 mac_Of) (sums_cons yes22_ok (sums_cons itoa_ok (sums_cons num_ok (sums_cons idx_ok (sums_cons join_ok (sums_cons split_ok (sums_cons (smOf_ok (alts_cons mac_Of_at alts_nil)) (sums_nil)))))))) (B := mac_Parse_B mac_Parse_L0 mac_Of) (hooks_add (fn := Tryd.f77) (by kernel_rfl) (by kernel_rfl) (blk_cons (bkOf_ok (blts_cons mac_Parse_L0_at blts_nil)) blk_nil) (hooks_nil)) opts 40) fun k => mac_Parse_eq mac_Parse_L0 mac_Of _ k
/- (*weirgate/parse.Cmd).read -/
def parse_Cmd_read_T {α : Type} (Gparse_small Gparse_small_v1 : Y23 α) (Gmac_Parse : Y32 α) (a_1 a_2 : ByteArray) (a_3 a_4 a_5 a_6 a_7 a_8 a_9 a_10 : Int) (k0 : Y28 α) : Option α := bif (a_1.toList == (⟨#[78]⟩ : ByteArray).toList) then
  bif Nat.ble a_2.size 281474976710656 then
   k0 (numOk a_2) a_3 a_4 a_5 (numI a_2) a_7 a_8 a_9 a_10
  else none /- test -/
 else bif (a_1.toList == (⟨#[80]⟩ : ByteArray).toList) then
  Gparse_small a_2
   (fun r_11 r_12 => k0 r_12 a_3 a_4 r_11 a_6 a_7 a_8 a_9 a_10)
   (fun r_11 => k0 false a_3 a_4 r_11 a_6 a_7 a_8 a_9 a_10)
 else bif (a_1.toList == (⟨#[86]⟩ : ByteArray).toList) then
  Gparse_small_v1 a_2
   (fun r_11 r_12 => k0 r_12 a_3 a_4 a_5 a_6 r_11 a_8 a_9 a_10)
   (fun r_11 => k0 false a_3 a_4 a_5 a_6 r_11 a_8 a_9 a_10)
 else bif (a_1.toList == (⟨#[77]⟩ : ByteArray).toList) then
  Gparse_small a_2
   (fun r_11 r_12 => bif (a_1.toList == (⟨#[77]⟩ : ByteArray).toList) then
    k0 r_12 a_3 a_4 a_5 a_6 a_7 (IntKind.u8.wrap r_11) a_9 a_10
   else k0 r_12 a_3 a_4 a_5 a_6 a_7 a_8 (IntKind.u8.wrap r_11) a_10)
   (fun r_11 => bif (a_1.toList == (⟨#[77]⟩ : ByteArray).toList) then
    k0 false a_3 a_4 a_5 a_6 a_7 (IntKind.u8.wrap r_11) a_9 a_10
   else k0 false a_3 a_4 a_5 a_6 a_7 a_8 (IntKind.u8.wrap r_11) a_10)
 else bif (a_1.toList == (⟨#[84]⟩ : ByteArray).toList) then
  Gparse_small a_2
   (fun r_11 r_12 => bif (a_1.toList == (⟨#[77]⟩ : ByteArray).toList) then
    k0 r_12 a_3 a_4 a_5 a_6 a_7 (IntKind.u8.wrap r_11) a_9 a_10
   else k0 r_12 a_3 a_4 a_5 a_6 a_7 a_8 (IntKind.u8.wrap r_11) a_10)
   (fun r_11 => bif (a_1.toList == (⟨#[77]⟩ : ByteArray).toList) then
    k0 false a_3 a_4 a_5 a_6 a_7 (IntKind.u8.wrap r_11) a_9 a_10
   else k0 false a_3 a_4 a_5 a_6 a_7 a_8 (IntKind.u8.wrap r_11) a_10)
 else bif (a_1.toList == (⟨#[65]⟩ : ByteArray).toList) then
  Gmac_Parse a_2
   (fun r_11 r_12 => k0 (r_12 == 0) a_3 a_4 a_5 a_6 a_7 a_8 a_9 r_11)
 else k0 (a_2.toList == a_1.toList) a_3 a_4 a_5 a_6 a_7 a_8 a_9 a_10
def parse_Cmd_read {α : Type} (a_1 a_2 : ByteArray) (a_3 a_4 a_5 a_6 a_7 a_8 a_9 a_10 : Int) (k0 : Y28 α) : Option α := parse_Cmd_read_T parse_small parse_small_v1 mac_Parse a_1 a_2 a_3 a_4 a_5 a_6 a_7 a_8 a_9 a_10 k0
def parse_Cmd_read_S (Gparse_small Gparse_small_v1 : Y23 Out) (Gmac_Parse : Y32 Out) : List (Nat × Sm) := [(22, yes), (34, itoaSm), (13, numSm), (94, idxSm), (33, joinSm), (52, splitSm), (76, smOf [(parse_small_p, fun h k => Gparse_small (gS h 0) (fun r0 r1 => k (.tup [.c (.pv (.val (.int .i64 r0))), .c (.pv (.val (.bool r1)))]) []) (fun r0 => k (.tup [.c (.pv (.val (.int .i64 r0))), .c (.pv (.val (.bool false)))]) [])), (parse_small_v1_p, fun h k => Gparse_small_v1 (gS h 0) (fun r0 r1 => k (.tup [.c (.pv (.val (.int .i64 r0))), .c (.pv (.val (.bool r1)))]) []) (fun r0 => k (.tup [.c (.pv (.val (.int .i64 r0))), .c (.pv (.val (.bool false)))]) []))]), (77, smOf [(mac_Parse_p, fun h k => Gmac_Parse (gS h 0) (fun r0 r1 => k (.tup [.c (.pv (.val (.int .u64 r0))), .c (.pv (.val (.int .i64 r1)))]) []))])]
def parse_Cmd_read_B (Gparse_small Gparse_small_v1 : Y23 Out) (Gmac_Parse : Y32 Out) : Hooks := []
theorem parse_Cmd_read_eq (Gparse_small Gparse_small_v1 : Y23 Out) (Gmac_Parse : Y32 Out) (a_1 a_2 : ByteArray) (a_3 a_4 a_5 a_6 a_7 a_8 a_9 a_10 : Int) (k : FK) : runS tt (has eql) Tryd.prog.funcs 18446744073709551616 (parse_Cmd_read_S Gparse_small Gparse_small_v1 Gmac_Parse) (parse_Cmd_read_B Gparse_small Gparse_small_v1 Gmac_Parse) opts 40 58 [.v (.c (.ptr 0 0)), .v (.c (.pv (.val (.string a_1)))), .v (.c (.pv (.val (.string a_2))))] [.cells false [.pv (.val (.int .i64 a_3)), .pv (.val (.int .i64 a_4)), .pv (.val (.int .i64 a_5)), .pv (.val (.int .i64 a_6)), .pv (.val (.int .i64 a_7)), .pv (.val (.int .u8 a_8)), .pv (.val (.int .u8 a_9)), .pv (.val (.int .u64 a_10))]] k = parse_Cmd_read_T Gparse_small Gparse_small_v1 Gmac_Parse a_1 a_2 a_3 a_4 a_5 a_6 a_7 a_8 a_9 a_10 (fun r0 r1 r2 r3 r4 r5 r6 r7 r8 => k (.v (.c (.pv (.val (.bool r0))))) [.cells false [.pv (.val (.int .i64 r1)), .pv (.val (.int .i64 r2)), .pv (.val (.int .i64 r3)), .pv (.val (.int .i64 r4)), .pv (.val (.int .i64 r5)), .pv (.val (.int .u8 r6)), .pv (.val (.int .u8 r7)), .pv (.val (.int .u64 r8))]]) := by kernel_rfl
def parse_Cmd_read_p : PAr := ⟨[.v (.c (.ptr 0 0)), .v (.c (.pv (.str))), .v (.c (.pv (.str)))], [.cells (.l false) [.pv (.int .i64 .h), .pv (.int .i64 .h), .pv (.int .i64 .h), .pv (.int .i64 .h), .pv (.int .i64 .h), .pv (.int .u8 .h), .pv (.int .u8 .h), .pv (.int .u64 .h)]]⟩
def parse_Cmd_read_F (h : List Hole) (k : FK) : Option Out := parse_Cmd_read (gS h 0) (gS h 1) (gI h 2) (gI h 3) (gI h 4) (gI h 5) (gI h 6) (gI h 7) (gI h 8) (gI h 9) (fun r0 r1 r2 r3 r4 r5 r6 r7 r8 => k (.v (.c (.pv (.val (.bool r0))))) [.cells false [.pv (.val (.int .i64 r1)), .pv (.val (.int .i64 r2)), .pv (.val (.int .i64 r3)), .pv (.val (.int .i64 r4)), .pv (.val (.int .i64 r5)), .pv (.val (.int .u8 r6)), .pv (.val (.int .u8 r7)), .pv (.val (.int .u64 r8))]])
theorem parse_Cmd_read_at (h : List Hole) : CallAt Tryd.prog 58 (arFill parse_Cmd_read_p h).1 (arFill parse_Cmd_read_p h).2 (parse_Cmd_read_F h) := by
  have e : arFill parse_Cmd_read_p h = ([.v (.c (.ptr 0 0)), .v (.c (.pv (.val (.string (gS h 0))))), .v (.c (.pv (.val (.string (gS h 1)))))], [.cells false [.pv (.val (.int .i64 (gI h 2))), .pv (.val (.int .i64 (gI h 3))), .pv (.val (.int .i64 (gI h 4))), .pv (.val (.int .i64 (gI h 5))), .pv (.val (.int .i64 (gI h 6))), .pv (.val (.int .u8 (gI h 7))), .pv (.val (.int .u8 (gI h 8))), .pv (.val (.int .u64 (gI h 9)))]]) := by kernel_rfl
  rw [e]; exact callAt_of (runS_ok ttOk eqOk mixed (names_ok namesOk) (S := parse_Cmd_read_S parse_small parse_small_v1 mac_Parse) (sums_cons yes22_ok (sums_cons itoa_ok (sums_cons num_ok (sums_cons idx_ok (sums_cons join_ok (sums_cons split_ok (sums_cons (smOf_ok (alts_cons parse_small_at (alts_cons parse_small_v1_at alts_nil))) (sums_cons (smOf_ok (alts_cons mac_Parse_at alts_nil)) (sums_nil))))))))) (B := parse_Cmd_read_B parse_small parse_small_v1 mac_Parse) (hooks_nil) opts 40) fun k => parse_Cmd_read_eq parse_small parse_small_v1 mac_Parse _ _ _ _ _ _ _ _ _ _ k
/- (weirgate/parse.form).take: loop 0 -/
def parse_form_take_L0_S (Gparse_Cmd_read : Y8 Out) : List (Nat × Sm) := [(22, yes), (34, itoaSm), (13, numSm), (94, idxSm), (33, joinSm), (52, splitSm), (58, smOf [(parse_Cmd_read_p, fun h k => Gparse_Cmd_read (gS h 0) (gS h 1) (gI h 2) (gI h 3) (gI h 4) (gI h 5) (gI h 6) (gI h 7) (gI h 8) (gI h 9) (fun r0 r1 r2 r3 r4 r5 r6 r7 r8 => k (.v (.c (.pv (.val (.bool r0))))) [.cells false [.pv (.val (.int .i64 r1)), .pv (.val (.int .i64 r2)), .pv (.val (.int .i64 r3)), .pv (.val (.int .i64 r4)), .pv (.val (.int .i64 r5)), .pv (.val (.int .u8 r6)), .pv (.val (.int .u8 r7)), .pv (.val (.int .u64 r8))]]))])]
def parse_form_take_L0_B (Gparse_Cmd_read : Y8 Out) : Hooks := []
noncomputable def parse_form_take_L0_C (Gparse_Cmd_read : Y8 Out) : Ctx := { tt := tt, eqs := has eql, call := runS tt (has eql) Tryd.prog.funcs 18446744073709551616 (parse_form_take_L0_S Gparse_Cmd_read) (parse_form_take_L0_B Gparse_Cmd_read) opts 40, fuel := 18446744073709551616, blk := fun i => aget [] i, bor := opts.bor }
def parse_form_take_L0_lo : Vx → List Nat := fun | .normal => [4, 7] | .exit j => (fun _ => []) j | .ret => [4, 5]
def parse_form_take_L0_h0 (a_1 a_2 : Int) (a_3 : Bool) (a_4 : Nat) (a_5 : Nat → Nat → PV) (a_6 : Bool) (a_7 : Nat) (a_8 : Nat → Nat → PV) (a_9 a_10 a_11 a_12 a_13 a_14 a_15 a_16 : Int) : St := { n := 38, m := 1, t := [(4, .v (.c (.ptr 1 0))), (6, .v (.c (.own 2))), (7, .v (.c (.ptr 3 0))), (21, .v (.c (.own 0))), (22, .v (.c (.pv (.val (.int .i64 a_1))))), (23, .v (.c (.pv (.val (.int .i64 a_2)))))], h := [(0, .parr false a_3 (.str .nil) 1 a_4 (a_5)), (1, .cells false [.pv (.val (.int .i64 0)), .pv (.val (.int .i64 0)), .pv (.val (.int .i64 0)), .pv (.val (.int .i64 0)), .pv (.val (.int .i64 0)), .pv (.val (.int .u8 0)), .pv (.val (.int .u8 0)), .pv (.val (.int .u64 0))]), (2, .parr false a_6 (.str .nil) 1 a_7 (a_8)), (3, .cells false [.pv (.val (.int .i64 a_9)), .pv (.val (.int .i64 a_10)), .pv (.val (.int .i64 a_11)), .pv (.val (.int .i64 a_12)), .pv (.val (.int .i64 a_13)), .pv (.val (.int .u8 a_14)), .pv (.val (.int .u8 a_15)), .pv (.val (.int .u64 a_16))])], nx := 4 }
def parse_form_take_L0_x0 (r0 : Bool) (r1 : Nat) (r2 : Nat → Nat → PV) : St := { n := 38, m := 1, t := [(4, .v (.c (.ptr 1 0))), (5, .v (.c (.pv (.val (.bool false)))))], h := [(0, .parr false r0 (.str .nil) 1 r1 (r2)), (1, .cells false [.pv (.val (.int .i64 0)), .pv (.val (.int .i64 0)), .pv (.val (.int .i64 0)), .pv (.val (.int .i64 0)), .pv (.val (.int .i64 0)), .pv (.val (.int .u8 0)), .pv (.val (.int .u8 0)), .pv (.val (.int .u64 0))])], nx := 2 }
def parse_form_take_L0_x1 (r0 : Bool) (r1 : Nat) (r2 : Nat → Nat → PV) (r3 r4 r5 r6 r7 r8 r9 r10 : Int) : St := { n := 38, m := 1, t := [(4, .v (.c (.ptr 1 0))), (7, .v (.c (.ptr 2 0)))], h := [(0, .parr false r0 (.str .nil) 1 r1 (r2)), (1, .cells false [.pv (.val (.int .i64 0)), .pv (.val (.int .i64 0)), .pv (.val (.int .i64 0)), .pv (.val (.int .i64 0)), .pv (.val (.int .i64 0)), .pv (.val (.int .u8 0)), .pv (.val (.int .u8 0)), .pv (.val (.int .u64 0))]), (2, .cells false [.pv (.val (.int .i64 r3)), .pv (.val (.int .i64 r4)), .pv (.val (.int .i64 r5)), .pv (.val (.int .i64 r6)), .pv (.val (.int .i64 r7)), .pv (.val (.int .u8 r8)), .pv (.val (.int .u8 r9)), .pv (.val (.int .u64 r10))])], nx := 3 }
def parse_form_take_L0_s0 {α : Type} (Gparse_Cmd_read : Y8 α) (rec0 : Int → Int → Bool → Nat → (Nat → Nat → PV) → Bool → Nat → (Nat → Nat → PV) → Int → Int → Int → Int → Int → Int → Int → Int → Option α) (k0 : Y35 α) (k1 : Y18 α) (a_1 a_2 : Int) (a_3 : Bool) (a_4 : Nat) (a_5 : Nat → Nat → PV) (a_6 : Bool) (a_7 : Nat) (a_8 : Nat → Nat → PV) (a_9 a_10 a_11 a_12 a_13 a_14 a_15 a_16 : Int) : Option α := bif decide (a_2 < a_1) then
  bif inb a_2 a_4 then
   bif inb a_2 a_7 then
    Gparse_Cmd_read (textOf (a_8 a_2.toNat 0)) (textOf (a_5 a_2.toNat 0)) a_9 a_10 a_11 a_12 a_13 a_14 a_15 a_16
     (fun r_17 r_18 r_19 r_20 r_21 r_22 r_23 r_24 r_25 => bif !r_17 then
      k0 a_3 a_4 a_5
     else rec0 a_1 (IntKind.i64.wrap (a_2 + 1)) a_3 a_4 a_5 a_6 a_7 a_8 r_18 r_19 r_20 r_21 r_22 r_23 r_24 r_25)
   else none /- test -/
  else none /- test -/
 else k1 a_3 a_4 a_5 a_9 a_10 a_11 a_12 a_13 a_14 a_15 a_16
def parse_form_take_L0_l0 {α : Type} (k0 : Y35 α) (k1 : Y18 α) : Nat → Int → Int → Bool → Nat → (Nat → Nat → PV) → Bool → Nat → (Nat → Nat → PV) → Int → Int → Int → Int → Int → Int → Int → Int → Option α
  | 0 => fun _ _ _ _ _ _ _ _ _ _ _ _ _ _ _ _ => none
  | n + 1 => parse_form_take_L0_s0 parse_Cmd_read (parse_form_take_L0_l0 k0 k1 n) k0 k1
theorem parse_form_take_L0_s0_eq (Gparse_Cmd_read : Y8 Out) (k : Kont) (n : Nat) (a_1 a_2 : Int) (a_3 : Bool) (a_4 : Nat) (a_5 : Nat → Nat → PV) (a_6 : Bool) (a_7 : Nat) (a_8 : Nat → Nat → PV) (a_9 a_10 a_11 a_12 a_13 a_14 a_15 a_16 : Int) : loopN (fun st k => exec (parse_form_take_L0_C Gparse_Cmd_read) (loopBody (codeAt Tryd.f36 0)) st k) [4, 6, 7, 21, 22, 23] (loopK 0 (kn parse_form_take_L0_lo k)) (n + 1) (parse_form_take_L0_h0 a_1 a_2 a_3 a_4 a_5 a_6 a_7 a_8 a_9 a_10 a_11 a_12 a_13 a_14 a_15 a_16) = parse_form_take_L0_s0 Gparse_Cmd_read (fun a_1 a_2 a_3 a_4 a_5 a_6 a_7 a_8 a_9 a_10 a_11 a_12 a_13 a_14 a_15 a_16 => loopN (fun st k => exec (parse_form_take_L0_C Gparse_Cmd_read) (loopBody (codeAt Tryd.f36 0)) st k) [4, 6, 7, 21, 22, 23] (loopK 0 (kn parse_form_take_L0_lo k)) n (parse_form_take_L0_h0 a_1 a_2 a_3 a_4 a_5 a_6 a_7 a_8 a_9 a_10 a_11 a_12 a_13 a_14 a_15 a_16)) (fun r0 r1 r2 => k .ret (parse_form_take_L0_x0 r0 r1 r2)) (fun r0 r1 r2 r3 r4 r5 r6 r7 r8 r9 r10 => k .normal (parse_form_take_L0_x1 r0 r1 r2 r3 r4 r5 r6 r7 r8 r9 r10)) a_1 a_2 a_3 a_4 a_5 a_6 a_7 a_8 a_9 a_10 a_11 a_12 a_13 a_14 a_15 a_16 := by kernel_rfl
theorem parse_form_take_L0_l0_eq (k : Kont) : ∀ (n : Nat) (a_1 a_2 : Int) (a_3 : Bool) (a_4 : Nat) (a_5 : Nat → Nat → PV) (a_6 : Bool) (a_7 : Nat) (a_8 : Nat → Nat → PV) (a_9 a_10 a_11 a_12 a_13 a_14 a_15 a_16 : Int), loopN (fun st k => exec (parse_form_take_L0_C parse_Cmd_read) (loopBody (codeAt Tryd.f36 0)) st k) [4, 6, 7, 21, 22, 23] (loopK 0 (kn parse_form_take_L0_lo k)) n (parse_form_take_L0_h0 a_1 a_2 a_3 a_4 a_5 a_6 a_7 a_8 a_9 a_10 a_11 a_12 a_13 a_14 a_15 a_16) = parse_form_take_L0_l0 (fun r0 r1 r2 => k .ret (parse_form_take_L0_x0 r0 r1 r2)) (fun r0 r1 r2 r3 r4 r5 r6 r7 r8 r9 r10 => k .normal (parse_form_take_L0_x1 r0 r1 r2 r3 r4 r5 r6 r7 r8 r9 r10)) n a_1 a_2 a_3 a_4 a_5 a_6 a_7 a_8 a_9 a_10 a_11 a_12 a_13 a_14 a_15 a_16
  | 0, _, _, _, _, _, _, _, _, _, _, _, _, _, _, _, _ => rfl
  | n + 1, a_1, a_2, a_3, a_4, a_5, a_6, a_7, a_8, a_9, a_10, a_11, a_12, a_13, a_14, a_15, a_16 => by
    have r0 : (fun a_1 a_2 a_3 a_4 a_5 a_6 a_7 a_8 a_9 a_10 a_11 a_12 a_13 a_14 a_15 a_16 => loopN (fun st k => exec (parse_form_take_L0_C parse_Cmd_read) (loopBody (codeAt Tryd.f36 0)) st k) [4, 6, 7, 21, 22, 23] (loopK 0 (kn parse_form_take_L0_lo k)) n (parse_form_take_L0_h0 a_1 a_2 a_3 a_4 a_5 a_6 a_7 a_8 a_9 a_10 a_11 a_12 a_13 a_14 a_15 a_16)) = parse_form_take_L0_l0 (fun r0 r1 r2 => k .ret (parse_form_take_L0_x0 r0 r1 r2)) (fun r0 r1 r2 r3 r4 r5 r6 r7 r8 r9 r10 => k .normal (parse_form_take_L0_x1 r0 r1 r2 r3 r4 r5 r6 r7 r8 r9 r10)) n := funext fun a_1 => funext fun a_2 => funext fun a_3 => funext fun a_4 => funext fun a_5 => funext fun a_6 => funext fun a_7 => funext fun a_8 => funext fun a_9 => funext fun a_10 => funext fun a_11 => funext fun a_12 => funext fun a_13 => funext fun a_14 => funext fun a_15 => funext fun a_16 => parse_form_take_L0_l0_eq k n a_1 a_2 a_3 a_4 a_5 a_6 a_7 a_8 a_9 a_10 a_11 a_12 a_13 a_14 a_15 a_16
    exact (parse_form_take_L0_s0_eq parse_Cmd_read k n a_1 a_2 a_3 a_4 a_5 a_6 a_7 a_8 a_9 a_10 a_11 a_12 a_13 a_14 a_15 a_16).trans (by rw [r0]; rfl)
def parse_form_take_L0 {α : Type} (a_1 : Int) (a_2 : Bool) (a_3 : Nat) (a_4 : Nat → Nat → PV) (a_5 : Bool) (a_6 : Nat) (a_7 : Nat → Nat → PV) (a_8 a_9 a_10 a_11 a_12 a_13 a_14 a_15 : Int) (k0 : Y35 α) (k1 : Y18 α) : Option α := parse_form_take_L0_l0 k0 k1 18446744073709551616 a_1 0 a_2 a_3 a_4 a_5 a_6 a_7 a_8 a_9 a_10 a_11 a_12 a_13 a_14 a_15
def parse_form_take_L0_e (a_1 : Int) (a_2 : Bool) (a_3 : Nat) (a_4 : Nat → Nat → PV) (a_5 : Bool) (a_6 : Nat) (a_7 : Nat → Nat → PV) (a_8 a_9 a_10 a_11 a_12 a_13 a_14 a_15 : Int) : St := { n := 38, m := 1, t := [(4, .v (.c (.ptr 1 0))), (6, .v (.c (.own 2))), (7, .v (.c (.ptr 3 0))), (21, .v (.c (.own 0))), (22, .v (.c (.pv (.val (.int .i64 a_1))))), (23, .v (.c (.pv (.val (.int .i64 0)))))], h := [(0, .parr false a_2 (.str .nil) 1 a_3 (a_4)), (1, .cells false [.pv (.val (.int .i64 0)), .pv (.val (.int .i64 0)), .pv (.val (.int .i64 0)), .pv (.val (.int .i64 0)), .pv (.val (.int .i64 0)), .pv (.val (.int .u8 0)), .pv (.val (.int .u8 0)), .pv (.val (.int .u64 0))]), (2, .parr false a_5 (.str .nil) 1 a_6 (a_7)), (3, .cells false [.pv (.val (.int .i64 a_8)), .pv (.val (.int .i64 a_9)), .pv (.val (.int .i64 a_10)), .pv (.val (.int .i64 a_11)), .pv (.val (.int .i64 a_12)), .pv (.val (.int .u8 a_13)), .pv (.val (.int .u8 a_14)), .pv (.val (.int .u64 a_15))])], nx := 4 }
theorem parse_form_take_L0_eq (a_1 : Int) (a_2 : Bool) (a_3 : Nat) (a_4 : Nat → Nat → PV) (a_5 : Bool) (a_6 : Nat) (a_7 : Nat → Nat → PV) (a_8 a_9 a_10 a_11 a_12 a_13 a_14 a_15 : Int) (k : Kont) : exec (parse_form_take_L0_C parse_Cmd_read) (codeAt Tryd.f36 0) (parse_form_take_L0_e a_1 a_2 a_3 a_4 a_5 a_6 a_7 a_8 a_9 a_10 a_11 a_12 a_13 a_14 a_15) (kn parse_form_take_L0_lo k) = parse_form_take_L0 a_1 a_2 a_3 a_4 a_5 a_6 a_7 a_8 a_9 a_10 a_11 a_12 a_13 a_14 a_15 (fun r0 r1 r2 => k .ret (parse_form_take_L0_x0 r0 r1 r2)) (fun r0 r1 r2 r3 r4 r5 r6 r7 r8 r9 r10 => k .normal (parse_form_take_L0_x1 r0 r1 r2 r3 r4 r5 r6 r7 r8 r9 r10)) :=
  (by kernel_rfl : _ = loopN (fun st k => exec (parse_form_take_L0_C parse_Cmd_read) (loopBody (codeAt Tryd.f36 0)) st k) [4, 6, 7, 21, 22, 23] (loopK 0 (kn parse_form_take_L0_lo k)) 18446744073709551616 (parse_form_take_L0_h0 a_1 0 a_2 a_3 a_4 a_5 a_6 a_7 a_8 a_9 a_10 a_11 a_12 a_13 a_14 a_15)).trans (parse_form_take_L0_l0_eq k 18446744073709551616 a_1 0 a_2 a_3 a_4 a_5 a_6 a_7 a_8 a_9 a_10 a_11 a_12 a_13 a_14 a_15)
def parse_form_take_L0_p : PSt := { n := 38, m := 1, t := [(4, .v (.c (.ptr 1 0))), (6, .v (.c (.own 2))), (7, .v (.c (.ptr 3 0))), (21, .v (.c (.own 0))), (22, .v (.c (.pv (.int .i64 .h)))), (23, .v (.c (.pv (.int .i64 (.l 0)))))], h := [(0, .parr (.l false) .h (.str .nil) 1 .h), (1, .cells (.l false) [.pv (.int .i64 (.l 0)), .pv (.int .i64 (.l 0)), .pv (.int .i64 (.l 0)), .pv (.int .i64 (.l 0)), .pv (.int .i64 (.l 0)), .pv (.int .u8 (.l 0)), .pv (.int .u8 (.l 0)), .pv (.int .u64 (.l 0))]), (2, .parr (.l false) .h (.str .nil) 1 .h), (3, .cells (.l false) [.pv (.int .i64 .h), .pv (.int .i64 .h), .pv (.int .i64 .h), .pv (.int .i64 .h), .pv (.int .i64 .h), .pv (.int .u8 .h), .pv (.int .u8 .h), .pv (.int .u64 .h)])], nx := 4 }
def parse_form_take_L0_F (h : List Hole) (k : Kont) : Option Out := parse_form_take_L0 (gI h 0) (gB h 1) (gN h 2) (gF h 3) (gB h 4) (gN h 5) (gF h 6) (gI h 7) (gI h 8) (gI h 9) (gI h 10) (gI h 11) (gI h 12) (gI h 13) (gI h 14) (fun r0 r1 r2 => k .ret (parse_form_take_L0_x0 r0 r1 r2)) (fun r0 r1 r2 r3 r4 r5 r6 r7 r8 r9 r10 => k .normal (parse_form_take_L0_x1 r0 r1 r2 r3 r4 r5 r6 r7 r8 r9 r10))
theorem parse_form_take_L0_at (h : List Hole) : BodyAt Tryd.prog (codeAt Tryd.f36 0) (stFill parse_form_take_L0_p h) (parse_form_take_L0_F h) := by
  have e : stFill parse_form_take_L0_p h = parse_form_take_L0_e (gI h 0) (gB h 1) (gN h 2) (gF h 3) (gB h 4) (gN h 5) (gF h 6) (gI h 7) (gI h 8) (gI h 9) (gI h 10) (gI h 11) (gI h 12) (gI h 13) (gI h 14) := by kernel_rfl
  rw [e]; exact bodyAt_of (C := parse_form_take_L0_C parse_Cmd_read) ⟨ttOk, eqOk, runS_ok ttOk eqOk mixed (names_ok namesOk) (S := parse_form_take_L0_S parse_Cmd_read) (sums_cons yes22_ok (sums_cons itoa_ok (sums_cons num_ok (sums_cons idx_ok (sums_cons join_ok (sums_cons split_ok (sums_cons (smOf_ok (alts_cons parse_Cmd_read_at alts_nil)) (sums_nil)))))))) (B := parse_form_take_L0_B parse_Cmd_read) (hooks_nil) opts 40⟩ mixed (hooked_in (by kernel_rfl) blk_nil 0) fun k => parse_form_take_L0_eq _ _ _ _ _ _ _ _ _ _ _ _ _ _ _ k
/- (weirgate/parse.form).take -/
def parse_form_take_T {α : Type} (Gwords_Cut_L0 : Y13 α) (Gparse_form_take_L0 : Y2 α) (a_1 a_2 a_3 a_4 a_5 a_6 a_7 a_8 : Int) (a_9 : ByteArray) (a_10 : Bool) (a_11 : Nat) (a_12 : Nat → Nat → PV) (k0 : Y35 α) (k1 : Y19 α) : Option α := bif splitOk a_9 (⟨#[32]⟩ : ByteArray) then
  Gwords_Cut_L0 ((splitN a_9 (⟨#[32]⟩ : ByteArray) : Nat) : Int) (fun _ _ => .val undef) (splitN a_9 (⟨#[32]⟩ : ByteArray)) (splitRow a_9 (⟨#[32]⟩ : ByteArray))
   (fun r_13 r_14 r_15 => bif ((r_14 : Int) != (a_11 : Int)) then
    k0 a_10 a_11 a_12
   else Gparse_form_take_L0 (a_11 : Int) a_10 a_11 a_12 r_13 r_14 r_15 a_1 a_2 a_3 a_4 a_5 a_6 a_7 a_8
    (fun r_16 r_17 r_18 => k0 r_16 r_17 r_18)
    (fun r_16 r_17 r_18 r_19 r_20 r_21 r_22 r_23 r_24 r_25 r_26 => k1 r_19 r_20 r_21 r_22 r_23 r_24 r_25 r_26 r_16 r_17 r_18))
 else none /- test -/
def parse_form_take {α : Type} (a_1 a_2 a_3 a_4 a_5 a_6 a_7 a_8 : Int) (a_9 : ByteArray) (a_10 : Bool) (a_11 : Nat) (a_12 : Nat → Nat → PV) (k0 : Y35 α) (k1 : Y19 α) : Option α := parse_form_take_T words_Cut_L0 parse_form_take_L0 a_1 a_2 a_3 a_4 a_5 a_6 a_7 a_8 a_9 a_10 a_11 a_12 k0 k1
def parse_form_take_S (Gwords_Cut_L0 : Y13 Out) (Gparse_form_take_L0 : Y2 Out) : List (Nat × Sm) := [(22, yes), (34, itoaSm), (13, numSm), (94, idxSm), (33, joinSm), (52, splitSm)]
def parse_form_take_B (Gwords_Cut_L0 : Y13 Out) (Gparse_form_take_L0 : Y2 Out) : Hooks := [(16, [(0, hookG [3, 7, 8, 9] [(3, (.str .nil), 1)] (bkOf [(words_Cut_L0_p, fun h k => Gwords_Cut_L0 (gI h 0) (gF h 1) (gN h 2) (gF h 3) (fun r0 r1 r2 => k .normal (words_Cut_L0_x0 r0 r1 r2)))]))]), (36, [(0, hookG [4, 6, 7, 21, 22, 23] [] (bkOf [(parse_form_take_L0_p, fun h k => Gparse_form_take_L0 (gI h 0) (gB h 1) (gN h 2) (gF h 3) (gB h 4) (gN h 5) (gF h 6) (gI h 7) (gI h 8) (gI h 9) (gI h 10) (gI h 11) (gI h 12) (gI h 13) (gI h 14) (fun r0 r1 r2 => k .ret (parse_form_take_L0_x0 r0 r1 r2)) (fun r0 r1 r2 r3 r4 r5 r6 r7 r8 r9 r10 => k .normal (parse_form_take_L0_x1 r0 r1 r2 r3 r4 r5 r6 r7 r8 r9 r10)))]))])]
theorem parse_form_take_eq (Gwords_Cut_L0 : Y13 Out) (Gparse_form_take_L0 : Y2 Out) (a_1 a_2 a_3 a_4 a_5 a_6 a_7 a_8 : Int) (a_9 : ByteArray) (a_10 : Bool) (a_11 : Nat) (a_12 : Nat → Nat → PV) (k : FK) : runS tt (has eql) Tryd.prog.funcs 18446744073709551616 (parse_form_take_S Gwords_Cut_L0 Gparse_form_take_L0) (parse_form_take_B Gwords_Cut_L0 Gparse_form_take_L0) opts 40 36 [.v (.agg [.pv (.val (.int .i64 a_1)), .pv (.val (.int .i64 a_2)), .pv (.val (.int .i64 a_3)), .pv (.val (.int .i64 a_4)), .pv (.val (.int .i64 a_5)), .pv (.val (.int .u8 a_6)), .pv (.val (.int .u8 a_7)), .pv (.val (.int .u64 a_8)), .pv (.val (.string a_9))]), .v (.c (.own 0))] [.parr false a_10 (.str .nil) 1 a_11 (a_12)] k = parse_form_take_T Gwords_Cut_L0 Gparse_form_take_L0 a_1 a_2 a_3 a_4 a_5 a_6 a_7 a_8 a_9 a_10 a_11 a_12 (fun r0 r1 r2 => k (.tup [.agg [.pv (.val (.int .i64 0)), .pv (.val (.int .i64 0)), .pv (.val (.int .i64 0)), .pv (.val (.int .i64 0)), .pv (.val (.int .i64 0)), .pv (.val (.int .u8 0)), .pv (.val (.int .u8 0)), .pv (.val (.int .u64 0))], .c (.pv (.val (.bool false)))]) [.parr false r0 (.str .nil) 1 r1 (r2)]) (fun r0 r1 r2 r3 r4 r5 r6 r7 r8 r9 r10 => k (.tup [.agg [.pv (.val (.int .i64 r0)), .pv (.val (.int .i64 r1)), .pv (.val (.int .i64 r2)), .pv (.val (.int .i64 r3)), .pv (.val (.int .i64 r4)), .pv (.val (.int .u8 r5)), .pv (.val (.int .u8 r6)), .pv (.val (.int .u64 r7))], .c (.pv (.val (.bool true)))]) [.parr false r8 (.str .nil) 1 r9 (r10)]) := by kernel_rfl
def parse_form_take_p : PAr := ⟨[.v (.agg [.pv (.int .i64 .h), .pv (.int .i64 .h), .pv (.int .i64 .h), .pv (.int .i64 .h), .pv (.int .i64 .h), .pv (.int .u8 .h), .pv (.int .u8 .h), .pv (.int .u64 .h), .pv (.str)]), .v (.c (.own 0))], [.parr (.l false) .h (.str .nil) 1 .h]⟩
def parse_form_take_F (h : List Hole) (k : FK) : Option Out := parse_form_take (gI h 0) (gI h 1) (gI h 2) (gI h 3) (gI h 4) (gI h 5) (gI h 6) (gI h 7) (gS h 8) (gB h 9) (gN h 10) (gF h 11) (fun r0 r1 r2 => k (.tup [.agg [.pv (.val (.int .i64 0)), .pv (.val (.int .i64 0)), .pv (.val (.int .i64 0)), .pv (.val (.int .i64 0)), .pv (.val (.int .i64 0)), .pv (.val (.int .u8 0)), .pv (.val (.int .u8 0)), .pv (.val (.int .u64 0))], .c (.pv (.val (.bool false)))]) [.parr false r0 (.str .nil) 1 r1 (r2)]) (fun r0 r1 r2 r3 r4 r5 r6 r7 r8 r9 r10 => k (.tup [.agg [.pv (.val (.int .i64 r0)), .pv (.val (.int .i64 r1)), .pv (.val (.int .i64 r2)), .pv (.val (.int .i64 r3)), .pv (.val (.int .i64 r4)), .pv (.val (.int .u8 r5)), .pv (.val (.int .u8 r6)), .pv (.val (.int .u64 r7))], .c (.pv (.val (.bool true)))]) [.parr false r8 (.str .nil) 1 r9 (r10)])
theorem parse_form_take_at (h : List Hole) : CallAt Tryd.prog 36 (arFill parse_form_take_p h).1 (arFill parse_form_take_p h).2 (parse_form_take_F h) := by
  have e : arFill parse_form_take_p h = ([.v (.agg [.pv (.val (.int .i64 (gI h 0))), .pv (.val (.int .i64 (gI h 1))), .pv (.val (.int .i64 (gI h 2))), .pv (.val (.int .i64 (gI h 3))), .pv (.val (.int .i64 (gI h 4))), .pv (.val (.int .u8 (gI h 5))), .pv (.val (.int .u8 (gI h 6))), .pv (.val (.int .u64 (gI h 7))), .pv (.val (.string (gS h 8)))]), .v (.c (.own 0))], [.parr false (gB h 9) (.str .nil) 1 (gN h 10) ((gF h 11))]) := by kernel_rfl
  rw [e]; exact callAt_of (runS_ok ttOk eqOk mixed (names_ok namesOk) (S := parse_form_take_S words_Cut_L0 parse_form_take_L0) (sums_cons yes22_ok (sums_cons itoa_ok (sums_cons num_ok (sums_cons idx_ok (sums_cons join_ok (sums_cons split_ok (sums_nil))))))) (B := parse_form_take_B words_Cut_L0 parse_form_take_L0) (hooks_add (fn := Tryd.f16) (by kernel_rfl) (by kernel_rfl) (blk_cons (bkOf_ok (blts_cons words_Cut_L0_at blts_nil)) blk_nil) (hooks_add (fn := Tryd.f36) (by kernel_rfl) (by kernel_rfl) (blk_cons (bkOf_ok (blts_cons parse_form_take_L0_at blts_nil)) blk_nil) (hooks_nil))) opts 40) fun k => parse_form_take_eq words_Cut_L0 parse_form_take_L0 _ _ _ _ _ _ _ _ _ _ _ _ k
def e23 (x0 x1 x2 x3 x4 x5 x6 x7 x8 x9 x10 x11 x12 x13 x14 x15 : Int) : Bool := ((x0 == x1) && ((x2 == x3) && ((x4 == x5) && ((x6 == x7) && ((x8 == x9) && ((x10 == x11) && ((x12 == x13) && (x14 == x15))))))))
/- weirgate/parse.Text: loop 2 -/
def parse_Text_L2_v1_S (Gparse_Cmd_write : Y15 Out) : List (Nat × Sm) := [(22, yes), (34, itoaSm), (13, numSm), (94, idxSm), (33, joinSm), (52, splitSm), (40, smOf [(parse_Cmd_write_p, fun h k => Gparse_Cmd_write (gI h 0) (gI h 1) (gI h 2) (gI h 3) (gI h 4) (gI h 5) (gI h 6) (gI h 7) (gS h 8) (fun r0 => k (.v (.c (.pv (.val (.string r0))))) []))])]
def parse_Text_L2_v1_B (Gparse_Cmd_write : Y15 Out) : Hooks := []
noncomputable def parse_Text_L2_v1_C (Gparse_Cmd_write : Y15 Out) : Ctx := { tt := tt, eqs := has eql, call := runS tt (has eql) Tryd.prog.funcs 18446744073709551616 (parse_Text_L2_v1_S Gparse_Cmd_write) (parse_Text_L2_v1_B Gparse_Cmd_write) opts 40, fuel := 18446744073709551616, blk := fun i => aget [] i, bor := opts.bor }
def parse_Text_L2_v1_lo : Vx → List Nat := fun | .normal => [1, 5, 6, 11, 12, 13] | .exit j => bif Nat.beq j 1 then [1, 11, 12, 13] else bif Nat.beq j 0 then [] else [] | .ret => [2, 3]
def parse_Text_L2_v1_h0 (a_1 a_2 a_3 a_4 a_5 a_6 a_7 a_8 a_9 a_10 a_11 a_12 a_13 a_14 a_15 a_16 a_17 a_18 a_19 : Int) (a_20 : ByteArray) (a_21 : Bool) (a_22 : Nat) (a_23 a_24 : Nat → Nat → PV) (a_25 : Bool) (a_26 : Nat) (a_27 : Nat → Nat → PV) : St := { n := 49, m := 0, t := [(1, .v (.c (.ptr 0 0))), (5, .v (.c (.ptr 1 0))), (6, .v (.c (.own 2))), (11, .v (.c (.own 3))), (12, .v (.c (.pv (.val (.int .i64 16))))), (13, .v (.c (.pv (.val (.int .i64 a_1))))), (19, .v (.c (.own 4))), (20, .v (.c (.pv (.val (.int .i64 a_2))))), (21, .v (.c (.pv (.val (.int .i64 a_3)))))], h := [(0, .cells false [.pv (.val (.int .i64 a_4)), .pv (.val (.int .i64 a_5)), .pv (.val (.int .i64 a_6)), .pv (.val (.int .i64 a_7)), .pv (.val (.int .i64 a_8)), .pv (.val (.int .u8 a_9)), .pv (.val (.int .u8 a_10)), .pv (.val (.int .u64 a_11))]), (1, .cells false [.pv (.val (.int .i64 a_12)), .pv (.val (.int .i64 a_13)), .pv (.val (.int .i64 a_14)), .pv (.val (.int .i64 a_15)), .pv (.val (.int .i64 a_16)), .pv (.val (.int .u8 a_17)), .pv (.val (.int .u8 a_18)), .pv (.val (.int .u64 a_19)), .pv (.val (.string a_20))]), (2, .parr false a_21 (.str .nil) 1 a_22 (a_23)), (3, .parr false false (.int .i64 (.int .i64 (.int .i64 (.int .i64 (.int .i64 (.int .u8 (.int .u8 (.int .u64 (.str .nil))))))))) 9 16 (a_24)), (4, .parr false a_25 (.str .nil) 1 a_26 (a_27))], nx := 5 }
def parse_Text_L2_v1_x0 (r0 r1 r2 r3 r4 r5 r6 r7 r8 r9 r10 r11 r12 r13 r14 r15 r16 : Int) (r17 : ByteArray) (r18 : Bool) (r19 : Nat) (r20 r21 : Nat → Nat → PV) : St := { n := 49, m := 0, t := [(1, .v (.c (.ptr 0 0))), (5, .v (.c (.ptr 1 0))), (6, .v (.c (.own 2))), (11, .v (.c (.own 3))), (12, .v (.c (.pv (.val (.int .i64 16))))), (13, .v (.c (.pv (.val (.int .i64 r0)))))], h := [(0, .cells false [.pv (.val (.int .i64 r1)), .pv (.val (.int .i64 r2)), .pv (.val (.int .i64 r3)), .pv (.val (.int .i64 r4)), .pv (.val (.int .i64 r5)), .pv (.val (.int .u8 r6)), .pv (.val (.int .u8 r7)), .pv (.val (.int .u64 r8))]), (1, .cells false [.pv (.val (.int .i64 r9)), .pv (.val (.int .i64 r10)), .pv (.val (.int .i64 r11)), .pv (.val (.int .i64 r12)), .pv (.val (.int .i64 r13)), .pv (.val (.int .u8 r14)), .pv (.val (.int .u8 r15)), .pv (.val (.int .u64 r16)), .pv (.val (.string r17))]), (2, .parr false r18 (.str .nil) 1 r19 (r20)), (3, .parr false false (.int .i64 (.int .i64 (.int .i64 (.int .i64 (.int .i64 (.int .u8 (.int .u8 (.int .u64 (.str .nil))))))))) 9 16 (r21))], nx := 4 }
def parse_Text_L2_v1_s0 {α : Type} (Gparse_Cmd_write : Y15 α) (rec0 : Int → Int → Int → Int → Int → Int → Int → Int → Int → Int → Int → Int → Int → Int → Int → Int → Int → Int → Int → ByteArray → Bool → Nat → (Nat → Nat → PV) → (Nat → Nat → PV) → Bool → Nat → (Nat → Nat → PV) → Option α) (k0 : Y5 α) (a_1 a_2 a_3 a_4 a_5 a_6 a_7 a_8 a_9 a_10 a_11 a_12 a_13 a_14 a_15 a_16 a_17 a_18 a_19 : Int) (a_20 : ByteArray) (a_21 : Bool) (a_22 : Nat) (a_23 a_24 : Nat → Nat → PV) (a_25 : Bool) (a_26 : Nat) (a_27 : Nat → Nat → PV) : Option α := bif decide (a_3 < a_2) then
  bif inb a_3 a_26 then
   Gparse_Cmd_write a_4 a_5 a_6 a_7 a_8 a_9 a_10 a_11 (textOf (a_27 a_3.toNat 0))
    (fun r_28 => bif Nat.ble ((a_22 + 1) * 16) bound then
     rec0 a_1 a_2 (IntKind.i64.wrap (a_3 + 1)) a_4 a_5 a_6 a_7 a_8 a_9 a_10 a_11 a_12 a_13 a_14 a_15 a_16 a_17 a_18 a_19 a_20 (a_21 && false) (a_22 + 1) (catf a_22 (a_23) (rowOf 1 [.val (.string r_28)])) a_24 a_25 a_26 a_27
    else none /- test -/)
  else none /- test -/
 else k0 a_1 a_4 a_5 a_6 a_7 a_8 a_9 a_10 a_11 a_12 a_13 a_14 a_15 a_16 a_17 a_18 a_19 a_20 a_21 a_22 a_23 a_24
def parse_Text_L2_v1_l0 {α : Type} (k0 : Y5 α) : Nat → Int → Int → Int → Int → Int → Int → Int → Int → Int → Int → Int → Int → Int → Int → Int → Int → Int → Int → Int → ByteArray → Bool → Nat → (Nat → Nat → PV) → (Nat → Nat → PV) → Bool → Nat → (Nat → Nat → PV) → Option α
  | 0 => fun _ _ _ _ _ _ _ _ _ _ _ _ _ _ _ _ _ _ _ _ _ _ _ _ _ _ _ => none
  | n + 1 => parse_Text_L2_v1_s0 parse_Cmd_write (parse_Text_L2_v1_l0 k0 n) k0
theorem parse_Text_L2_v1_s0_eq (Gparse_Cmd_write : Y15 Out) (k : Kont) (n : Nat) (a_1 a_2 a_3 a_4 a_5 a_6 a_7 a_8 a_9 a_10 a_11 a_12 a_13 a_14 a_15 a_16 a_17 a_18 a_19 : Int) (a_20 : ByteArray) (a_21 : Bool) (a_22 : Nat) (a_23 a_24 : Nat → Nat → PV) (a_25 : Bool) (a_26 : Nat) (a_27 : Nat → Nat → PV) : loopN (fun st k => exec (parse_Text_L2_v1_C Gparse_Cmd_write) (loopBody (codeAt Tryd.f26 2)) st k) [1, 5, 6, 11, 12, 13, 19, 20, 21] (loopK 2 (kn parse_Text_L2_v1_lo k)) (n + 1) (parse_Text_L2_v1_h0 a_1 a_2 a_3 a_4 a_5 a_6 a_7 a_8 a_9 a_10 a_11 a_12 a_13 a_14 a_15 a_16 a_17 a_18 a_19 a_20 a_21 a_22 a_23 a_24 a_25 a_26 a_27) = parse_Text_L2_v1_s0 Gparse_Cmd_write (fun a_1 a_2 a_3 a_4 a_5 a_6 a_7 a_8 a_9 a_10 a_11 a_12 a_13 a_14 a_15 a_16 a_17 a_18 a_19 a_20 a_21 a_22 a_23 a_24 a_25 a_26 a_27 => loopN (fun st k => exec (parse_Text_L2_v1_C Gparse_Cmd_write) (loopBody (codeAt Tryd.f26 2)) st k) [1, 5, 6, 11, 12, 13, 19, 20, 21] (loopK 2 (kn parse_Text_L2_v1_lo k)) n (parse_Text_L2_v1_h0 a_1 a_2 a_3 a_4 a_5 a_6 a_7 a_8 a_9 a_10 a_11 a_12 a_13 a_14 a_15 a_16 a_17 a_18 a_19 a_20 a_21 a_22 a_23 a_24 a_25 a_26 a_27)) (fun r0 r1 r2 r3 r4 r5 r6 r7 r8 r9 r10 r11 r12 r13 r14 r15 r16 r17 r18 r19 r20 r21 => k .normal (parse_Text_L2_v1_x0 r0 r1 r2 r3 r4 r5 r6 r7 r8 r9 r10 r11 r12 r13 r14 r15 r16 r17 r18 r19 r20 r21)) a_1 a_2 a_3 a_4 a_5 a_6 a_7 a_8 a_9 a_10 a_11 a_12 a_13 a_14 a_15 a_16 a_17 a_18 a_19 a_20 a_21 a_22 a_23 a_24 a_25 a_26 a_27 := by kernel_rfl
theorem parse_Text_L2_v1_l0_eq (k : Kont) : ∀ (n : Nat) (a_1 a_2 a_3 a_4 a_5 a_6 a_7 a_8 a_9 a_10 a_11 a_12 a_13 a_14 a_15 a_16 a_17 a_18 a_19 : Int) (a_20 : ByteArray) (a_21 : Bool) (a_22 : Nat) (a_23 a_24 : Nat → Nat → PV) (a_25 : Bool) (a_26 : Nat) (a_27 : Nat → Nat → PV), loopN (fun st k => exec (parse_Text_L2_v1_C parse_Cmd_write) (loopBody (codeAt Tryd.f26 2)) st k) [1, 5, 6, 11, 12, 13, 19, 20, 21] (loopK 2 (kn parse_Text_L2_v1_lo k)) n (parse_Text_L2_v1_h0 a_1 a_2 a_3 a_4 a_5 a_6 a_7 a_8 a_9 a_10 a_11 a_12 a_13 a_14 a_15 a_16 a_17 a_18 a_19 a_20 a_21 a_22 a_23 a_24 a_25 a_26 a_27) = parse_Text_L2_v1_l0 (fun r0 r1 r2 r3 r4 r5 r6 r7 r8 r9 r10 r11 r12 r13 r14 r15 r16 r17 r18 r19 r20 r21 => k .normal (parse_Text_L2_v1_x0 r0 r1 r2 r3 r4 r5 r6 r7 r8 r9 r10 r11 r12 r13 r14 r15 r16 r17 r18 r19 r20 r21)) n a_1 a_2 a_3 a_4 a_5 a_6 a_7 a_8 a_9 a_10 a_11 a_12 a_13 a_14 a_15 a_16 a_17 a_18 a_19 a_20 a_21 a_22 a_23 a_24 a_25 a_26 a_27
  | 0, _, _, _, _, _, _, _, _, _, _, _, _, _, _, _, _, _, _, _, _, _, _, _, _, _, _, _ => rfl
  | n + 1, a_1, a_2, a_3, a_4, a_5, a_6, a_7, a_8, a_9, a_10, a_11, a_12, a_13, a_14, a_15, a_16, a_17, a_18, a_19, a_20, a_21, a_22, a_23, a_24, a_25, a_26, a_27 => by
    have r0 : (fun a_1 a_2 a_3 a_4 a_5 a_6 a_7 a_8 a_9 a_10 a_11 a_12 a_13 a_14 a_15 a_16 a_17 a_18 a_19 a_20 a_21 a_22 a_23 a_24 a_25 a_26 a_27 => loopN (fun st k => exec (parse_Text_L2_v1_C parse_Cmd_write) (loopBody (codeAt Tryd.f26 2)) st k) [1, 5, 6, 11, 12, 13, 19, 20, 21] (loopK 2 (kn parse_Text_L2_v1_lo k)) n (parse_Text_L2_v1_h0 a_1 a_2 a_3 a_4 a_5 a_6 a_7 a_8 a_9 a_10 a_11 a_12 a_13 a_14 a_15 a_16 a_17 a_18 a_19 a_20 a_21 a_22 a_23 a_24 a_25 a_26 a_27)) = parse_Text_L2_v1_l0 (fun r0 r1 r2 r3 r4 r5 r6 r7 r8 r9 r10 r11 r12 r13 r14 r15 r16 r17 r18 r19 r20 r21 => k .normal (parse_Text_L2_v1_x0 r0 r1 r2 r3 r4 r5 r6 r7 r8 r9 r10 r11 r12 r13 r14 r15 r16 r17 r18 r19 r20 r21)) n := funext fun a_1 => funext fun a_2 => funext fun a_3 => funext fun a_4 => funext fun a_5 => funext fun a_6 => funext fun a_7 => funext fun a_8 => funext fun a_9 => funext fun a_10 => funext fun a_11 => funext fun a_12 => funext fun a_13 => funext fun a_14 => funext fun a_15 => funext fun a_16 => funext fun a_17 => funext fun a_18 => funext fun a_19 => funext fun a_20 => funext fun a_21 => funext fun a_22 => funext fun a_23 => funext fun a_24 => funext fun a_25 => funext fun a_26 => funext fun a_27 => parse_Text_L2_v1_l0_eq k n a_1 a_2 a_3 a_4 a_5 a_6 a_7 a_8 a_9 a_10 a_11 a_12 a_13 a_14 a_15 a_16 a_17 a_18 a_19 a_20 a_21 a_22 a_23 a_24 a_25 a_26 a_27
    exact (parse_Text_L2_v1_s0_eq parse_Cmd_write k n a_1 a_2 a_3 a_4 a_5 a_6 a_7 a_8 a_9 a_10 a_11 a_12 a_13 a_14 a_15 a_16 a_17 a_18 a_19 a_20 a_21 a_22 a_23 a_24 a_25 a_26 a_27).trans (by rw [r0]; rfl)
def parse_Text_L2_v1 {α : Type} (a_1 a_2 a_3 a_4 a_5 a_6 a_7 a_8 a_9 a_10 a_11 a_12 a_13 a_14 a_15 a_16 a_17 a_18 : Int) (a_19 : ByteArray) (a_20 a_21 : Nat → Nat → PV) (a_22 : Bool) (a_23 : Nat) (a_24 : Nat → Nat → PV) (k0 : Y5 α) : Option α := parse_Text_L2_v1_l0 k0 18446744073709551616 a_1 a_2 0 a_3 a_4 a_5 a_6 a_7 a_8 a_9 a_10 a_11 a_12 a_13 a_14 a_15 a_16 a_17 a_18 a_19 true 0 a_20 a_21 a_22 a_23 a_24
def parse_Text_L2_v1_e (a_1 a_2 a_3 a_4 a_5 a_6 a_7 a_8 a_9 a_10 a_11 a_12 a_13 a_14 a_15 a_16 a_17 a_18 : Int) (a_19 : ByteArray) (a_20 a_21 : Nat → Nat → PV) (a_22 : Bool) (a_23 : Nat) (a_24 : Nat → Nat → PV) : St := { n := 49, m := 0, t := [(1, .v (.c (.ptr 0 0))), (5, .v (.c (.ptr 1 0))), (6, .v (.c (.own 2))), (11, .v (.c (.own 3))), (12, .v (.c (.pv (.val (.int .i64 16))))), (13, .v (.c (.pv (.val (.int .i64 a_1))))), (19, .v (.c (.own 4))), (20, .v (.c (.pv (.val (.int .i64 a_2))))), (21, .v (.c (.pv (.val (.int .i64 0)))))], h := [(0, .cells false [.pv (.val (.int .i64 a_3)), .pv (.val (.int .i64 a_4)), .pv (.val (.int .i64 a_5)), .pv (.val (.int .i64 a_6)), .pv (.val (.int .i64 a_7)), .pv (.val (.int .u8 a_8)), .pv (.val (.int .u8 a_9)), .pv (.val (.int .u64 a_10))]), (1, .cells false [.pv (.val (.int .i64 a_11)), .pv (.val (.int .i64 a_12)), .pv (.val (.int .i64 a_13)), .pv (.val (.int .i64 a_14)), .pv (.val (.int .i64 a_15)), .pv (.val (.int .u8 a_16)), .pv (.val (.int .u8 a_17)), .pv (.val (.int .u64 a_18)), .pv (.val (.string a_19))]), (2, .parr false true (.str .nil) 1 0 (a_20)), (3, .parr false false (.int .i64 (.int .i64 (.int .i64 (.int .i64 (.int .i64 (.int .u8 (.int .u8 (.int .u64 (.str .nil))))))))) 9 16 (a_21)), (4, .parr false a_22 (.str .nil) 1 a_23 (a_24))], nx := 5 }
theorem parse_Text_L2_v1_eq (a_1 a_2 a_3 a_4 a_5 a_6 a_7 a_8 a_9 a_10 a_11 a_12 a_13 a_14 a_15 a_16 a_17 a_18 : Int) (a_19 : ByteArray) (a_20 a_21 : Nat → Nat → PV) (a_22 : Bool) (a_23 : Nat) (a_24 : Nat → Nat → PV) (k : Kont) : exec (parse_Text_L2_v1_C parse_Cmd_write) (codeAt Tryd.f26 2) (parse_Text_L2_v1_e a_1 a_2 a_3 a_4 a_5 a_6 a_7 a_8 a_9 a_10 a_11 a_12 a_13 a_14 a_15 a_16 a_17 a_18 a_19 a_20 a_21 a_22 a_23 a_24) (kn parse_Text_L2_v1_lo k) = parse_Text_L2_v1 a_1 a_2 a_3 a_4 a_5 a_6 a_7 a_8 a_9 a_10 a_11 a_12 a_13 a_14 a_15 a_16 a_17 a_18 a_19 a_20 a_21 a_22 a_23 a_24 (fun r0 r1 r2 r3 r4 r5 r6 r7 r8 r9 r10 r11 r12 r13 r14 r15 r16 r17 r18 r19 r20 r21 => k .normal (parse_Text_L2_v1_x0 r0 r1 r2 r3 r4 r5 r6 r7 r8 r9 r10 r11 r12 r13 r14 r15 r16 r17 r18 r19 r20 r21)) :=
  (by kernel_rfl : _ = loopN (fun st k => exec (parse_Text_L2_v1_C parse_Cmd_write) (loopBody (codeAt Tryd.f26 2)) st k) [1, 5, 6, 11, 12, 13, 19, 20, 21] (loopK 2 (kn parse_Text_L2_v1_lo k)) 18446744073709551616 (parse_Text_L2_v1_h0 a_1 a_2 0 a_3 a_4 a_5 a_6 a_7 a_8 a_9 a_10 a_11 a_12 a_13 a_14 a_15 a_16 a_17 a_18 a_19 true 0 a_20 a_21 a_22 a_23 a_24)).trans (parse_Text_L2_v1_l0_eq k 18446744073709551616 a_1 a_2 0 a_3 a_4 a_5 a_6 a_7 a_8 a_9 a_10 a_11 a_12 a_13 a_14 a_15 a_16 a_17 a_18 a_19 true 0 a_20 a_21 a_22 a_23 a_24)
def parse_Text_L2_v1_p : PSt := { n := 49, m := 0, t := [(1, .v (.c (.ptr 0 0))), (5, .v (.c (.ptr 1 0))), (6, .v (.c (.own 2))), (11, .v (.c (.own 3))), (12, .v (.c (.pv (.int .i64 (.l 16))))), (13, .v (.c (.pv (.int .i64 .h)))), (19, .v (.c (.own 4))), (20, .v (.c (.pv (.int .i64 .h)))), (21, .v (.c (.pv (.int .i64 (.l 0)))))], h := [(0, .cells (.l false) [.pv (.int .i64 .h), .pv (.int .i64 .h), .pv (.int .i64 .h), .pv (.int .i64 .h), .pv (.int .i64 .h), .pv (.int .u8 .h), .pv (.int .u8 .h), .pv (.int .u64 .h)]), (1, .cells (.l false) [.pv (.int .i64 .h), .pv (.int .i64 .h), .pv (.int .i64 .h), .pv (.int .i64 .h), .pv (.int .i64 .h), .pv (.int .u8 .h), .pv (.int .u8 .h), .pv (.int .u64 .h), .pv (.str)]), (2, .parr (.l false) (.l true) (.str .nil) 1 (.l 0)), (3, .parr (.l false) (.l false) (.int .i64 (.int .i64 (.int .i64 (.int .i64 (.int .i64 (.int .u8 (.int .u8 (.int .u64 (.str .nil))))))))) 9 (.l 16)), (4, .parr (.l false) .h (.str .nil) 1 .h)], nx := 5 }
def parse_Text_L2_v1_F (h : List Hole) (k : Kont) : Option Out := parse_Text_L2_v1 (gI h 0) (gI h 1) (gI h 2) (gI h 3) (gI h 4) (gI h 5) (gI h 6) (gI h 7) (gI h 8) (gI h 9) (gI h 10) (gI h 11) (gI h 12) (gI h 13) (gI h 14) (gI h 15) (gI h 16) (gI h 17) (gS h 18) (gF h 19) (gF h 20) (gB h 21) (gN h 22) (gF h 23) (fun r0 r1 r2 r3 r4 r5 r6 r7 r8 r9 r10 r11 r12 r13 r14 r15 r16 r17 r18 r19 r20 r21 => k .normal (parse_Text_L2_v1_x0 r0 r1 r2 r3 r4 r5 r6 r7 r8 r9 r10 r11 r12 r13 r14 r15 r16 r17 r18 r19 r20 r21))
theorem parse_Text_L2_v1_at (h : List Hole) : BodyAt Tryd.prog (codeAt Tryd.f26 2) (stFill parse_Text_L2_v1_p h) (parse_Text_L2_v1_F h) := by
  have e : stFill parse_Text_L2_v1_p h = parse_Text_L2_v1_e (gI h 0) (gI h 1) (gI h 2) (gI h 3) (gI h 4) (gI h 5) (gI h 6) (gI h 7) (gI h 8) (gI h 9) (gI h 10) (gI h 11) (gI h 12) (gI h 13) (gI h 14) (gI h 15) (gI h 16) (gI h 17) (gS h 18) (gF h 19) (gF h 20) (gB h 21) (gN h 22) (gF h 23) := by kernel_rfl
  rw [e]; exact bodyAt_of (C := parse_Text_L2_v1_C parse_Cmd_write) ⟨ttOk, eqOk, runS_ok ttOk eqOk mixed (names_ok namesOk) (S := parse_Text_L2_v1_S parse_Cmd_write) (sums_cons yes22_ok (sums_cons itoa_ok (sums_cons num_ok (sums_cons idx_ok (sums_cons join_ok (sums_cons split_ok (sums_cons (smOf_ok (alts_cons parse_Cmd_write_at alts_nil)) (sums_nil)))))))) (B := parse_Text_L2_v1_B parse_Cmd_write) (hooks_nil) opts 40⟩ mixed (hooked_in (by kernel_rfl) blk_nil 2) fun k => parse_Text_L2_v1_eq _ _ _ _ _ _ _ _ _ _ _ _ _ _ _ _ _ _ _ _ _ _ _ _ k
/- weirgate/parse.Text: loop 0 -/
def parse_Text_L0_S (Gwords_Cut_L0 : Y13 Out) (Gparse_Text_L2_v1 : Y1 Out) (Gslices_Index_string_string : Y16 Out) (Gparse_form_take : Y3 Out) : List (Nat × Sm) := [(22, yes), (34, itoaSm), (13, numSm), (94, idxSm), (33, joinSm), (52, splitSm), (60, smOf [(slices_Index_string_string_p, fun h k => Gslices_Index_string_string (gB h 0) (gN h 1) (gF h 2) (fun r0 r1 r2 r3 => k (.v (.c (.pv (.val (.int .i64 r0))))) [.parr false r1 (.str .nil) 1 r2 (r3)]))]), (36, smOf [(parse_form_take_p, fun h k => Gparse_form_take (gI h 0) (gI h 1) (gI h 2) (gI h 3) (gI h 4) (gI h 5) (gI h 6) (gI h 7) (gS h 8) (gB h 9) (gN h 10) (gF h 11) (fun r0 r1 r2 => k (.tup [.agg [.pv (.val (.int .i64 0)), .pv (.val (.int .i64 0)), .pv (.val (.int .i64 0)), .pv (.val (.int .i64 0)), .pv (.val (.int .i64 0)), .pv (.val (.int .u8 0)), .pv (.val (.int .u8 0)), .pv (.val (.int .u64 0))], .c (.pv (.val (.bool false)))]) [.parr false r0 (.str .nil) 1 r1 (r2)]) (fun r0 r1 r2 r3 r4 r5 r6 r7 r8 r9 r10 => k (.tup [.agg [.pv (.val (.int .i64 r0)), .pv (.val (.int .i64 r1)), .pv (.val (.int .i64 r2)), .pv (.val (.int .i64 r3)), .pv (.val (.int .i64 r4)), .pv (.val (.int .u8 r5)), .pv (.val (.int .u8 r6)), .pv (.val (.int .u64 r7))], .c (.pv (.val (.bool true)))]) [.parr false r8 (.str .nil) 1 r9 (r10)]))])]
def parse_Text_L0_B (Gwords_Cut_L0 : Y13 Out) (Gparse_Text_L2_v1 : Y1 Out) (Gslices_Index_string_string : Y16 Out) (Gparse_form_take : Y3 Out) : Hooks := [(16, [(0, hookG [3, 7, 8, 9] [(3, (.str .nil), 1)] (bkOf [(words_Cut_L0_p, fun h k => Gwords_Cut_L0 (gI h 0) (gF h 1) (gN h 2) (gF h 3) (fun r0 r1 r2 => k .normal (words_Cut_L0_x0 r0 r1 r2)))]))])]
noncomputable def parse_Text_L0_C (Gwords_Cut_L0 : Y13 Out) (Gparse_Text_L2_v1 : Y1 Out) (Gslices_Index_string_string : Y16 Out) (Gparse_form_take : Y3 Out) : Ctx := { tt := tt, eqs := has eql, call := runS tt (has eql) Tryd.prog.funcs 18446744073709551616 (parse_Text_L0_S Gwords_Cut_L0 Gparse_Text_L2_v1 Gslices_Index_string_string Gparse_form_take) (parse_Text_L0_B Gwords_Cut_L0 Gparse_Text_L2_v1 Gslices_Index_string_string Gparse_form_take) opts 40, fuel := 18446744073709551616, blk := fun i => aget [(2, hookG [1, 5, 6, 11, 12, 13, 19, 20, 21] [(6, (.str .nil), 1)] (bkOf [(parse_Text_L2_v1_p, fun h k => Gparse_Text_L2_v1 (gI h 0) (gI h 1) (gI h 2) (gI h 3) (gI h 4) (gI h 5) (gI h 6) (gI h 7) (gI h 8) (gI h 9) (gI h 10) (gI h 11) (gI h 12) (gI h 13) (gI h 14) (gI h 15) (gI h 16) (gI h 17) (gS h 18) (gF h 19) (gF h 20) (gB h 21) (gN h 22) (gF h 23) (fun r0 r1 r2 r3 r4 r5 r6 r7 r8 r9 r10 r11 r12 r13 r14 r15 r16 r17 r18 r19 r20 r21 => k .normal (parse_Text_L2_v1_x0 r0 r1 r2 r3 r4 r5 r6 r7 r8 r9 r10 r11 r12 r13 r14 r15 r16 r17 r18 r19 r20 r21))), (parse_Text_L2_p, parse_Text_L2_F)]))] i, bor := opts.bor }
def parse_Text_L0_lo : Vx → List Nat := fun | .normal => [] | .exit j => (fun _ => []) j | .ret => [2, 3]
def parse_Text_L0_h0 (a_1 a_2 a_3 a_4 a_5 a_6 a_7 a_8 a_9 : Int) (a_10 : Nat → Nat → PV) : St := { n := 49, m := 0, t := [(1, .v (.c (.ptr 0 0))), (11, .v (.c (.own 1))), (12, .v (.c (.pv (.val (.int .i64 16))))), (13, .v (.c (.pv (.val (.int .i64 a_1)))))], h := [(0, .cells false [.pv (.val (.int .i64 a_2)), .pv (.val (.int .i64 a_3)), .pv (.val (.int .i64 a_4)), .pv (.val (.int .i64 a_5)), .pv (.val (.int .i64 a_6)), .pv (.val (.int .u8 a_7)), .pv (.val (.int .u8 a_8)), .pv (.val (.int .u64 a_9))]), (1, .parr false false (.int .i64 (.int .i64 (.int .i64 (.int .i64 (.int .i64 (.int .u8 (.int .u8 (.int .u64 (.str .nil))))))))) 9 16 (a_10))], nx := 2 }
def parse_Text_L0_x0 (r0 : ByteArray) : St := { n := 49, m := 0, t := [(2, .v (.c (.pv (.val (.string r0))))), (3, .v (.c (.pv (.val (.int .i64 0)))))], h := [], nx := 0 }
def parse_Text_L0_x1  : St := { n := 49, m := 0, t := [], h := [], nx := 0 }
def parse_Text_L0_s0 {α : Type} (Gwords_Cut_L0 : Y13 α) (Gparse_Text_L2_v1 : Y1 α) (Gslices_Index_string_string : Y16 α) (Gparse_form_take : Y3 α) (rec0 : Int → Int → Int → Int → Int → Int → Int → Int → Int → (Nat → Nat → PV) → Option α) (k0 : ByteArray → Option α) (k1 : Option α) (a_1 a_2 a_3 a_4 a_5 a_6 a_7 a_8 a_9 : Int) (a_10 : Nat → Nat → PV) : Option α := bif decide (a_1 < 16) then
  bif inb a_1 16 then
   bif splitOk (textOf (a_10 a_1.toNat 8)) (⟨#[32]⟩ : ByteArray) then
    Gwords_Cut_L0 ((splitN (textOf (a_10 a_1.toNat 8)) (⟨#[32]⟩ : ByteArray) : Nat) : Int) (fun _ _ => .val undef) (splitN (textOf (a_10 a_1.toNat 8)) (⟨#[32]⟩ : ByteArray)) (splitRow (textOf (a_10 a_1.toNat 8)) (⟨#[32]⟩ : ByteArray))
     (fun r_11 r_12 r_13 => Gparse_Text_L2_v1 a_1 (r_12 : Int) a_2 a_3 a_4 a_5 a_6 a_7 a_8 a_9 (numOf (a_10 a_1.toNat 0)) (numOf (a_10 a_1.toNat 1)) (numOf (a_10 a_1.toNat 2)) (numOf (a_10 a_1.toNat 3)) (numOf (a_10 a_1.toNat 4)) (numOf (a_10 a_1.toNat 5)) (numOf (a_10 a_1.toNat 6)) (numOf (a_10 a_1.toNat 7)) (textOf (a_10 a_1.toNat 8)) (fun _ _ => .val undef) a_10 r_11 r_12 r_13
      (fun r_14 r_15 r_16 r_17 r_18 r_19 r_20 r_21 r_22 r_23 r_24 r_25 r_26 r_27 r_28 r_29 r_30 r_31 r_32 r_33 r_34 r_35 => Gslices_Index_string_string r_32 r_33 r_34
       (fun r_36 r_37 r_38 r_39 => bif decide (r_36 ≥ 0) then
        rec0 (IntKind.i64.wrap (r_14 + 1)) r_15 r_16 r_17 r_18 r_19 r_20 r_21 r_22 r_35
       else Gparse_form_take r_23 r_24 r_25 r_26 r_27 r_28 r_29 r_30 r_31 r_37 r_38 r_39
        (fun r_40 r_41 r_42 => rec0 (IntKind.i64.wrap (r_14 + 1)) r_15 r_16 r_17 r_18 r_19 r_20 r_21 r_22 r_35)
        (fun r_40 r_41 r_42 r_43 r_44 r_45 r_46 r_47 r_48 r_49 r_50 => bif e23 r_40 r_15 r_41 r_16 r_42 r_17 r_43 r_18 r_44 r_19 r_45 r_20 r_46 r_21 r_47 r_22 then
         bif joinOk r_49 (r_50) (⟨#[32]⟩ : ByteArray) then
          k0 (joinS r_49 (r_50) (⟨#[32]⟩ : ByteArray))
         else none /- test -/
        else rec0 (IntKind.i64.wrap (r_14 + 1)) r_15 r_16 r_17 r_18 r_19 r_20 r_21 r_22 r_35))))
   else none /- test -/
  else none /- test -/
 else k1
def parse_Text_L0_l0 {α : Type} (k0 : ByteArray → Option α) (k1 : Option α) : Nat → Int → Int → Int → Int → Int → Int → Int → Int → Int → (Nat → Nat → PV) → Option α
  | 0 => fun _ _ _ _ _ _ _ _ _ _ => none
  | n + 1 => parse_Text_L0_s0 words_Cut_L0 parse_Text_L2_v1 slices_Index_string_string parse_form_take (parse_Text_L0_l0 k0 k1 n) k0 k1
theorem parse_Text_L0_s0_eq (Gwords_Cut_L0 : Y13 Out) (Gparse_Text_L2_v1 : Y1 Out) (Gslices_Index_string_string : Y16 Out) (Gparse_form_take : Y3 Out) (k : Kont) (n : Nat) (a_1 a_2 a_3 a_4 a_5 a_6 a_7 a_8 a_9 : Int) (a_10 : Nat → Nat → PV) : loopN (fun st k => exec (parse_Text_L0_C Gwords_Cut_L0 Gparse_Text_L2_v1 Gslices_Index_string_string Gparse_form_take) (loopBody (codeAt Tryd.f26 0)) st k) [1, 11, 12, 13] (loopK 0 (kn parse_Text_L0_lo k)) (n + 1) (parse_Text_L0_h0 a_1 a_2 a_3 a_4 a_5 a_6 a_7 a_8 a_9 a_10) = parse_Text_L0_s0 Gwords_Cut_L0 Gparse_Text_L2_v1 Gslices_Index_string_string Gparse_form_take (fun a_1 a_2 a_3 a_4 a_5 a_6 a_7 a_8 a_9 a_10 => loopN (fun st k => exec (parse_Text_L0_C Gwords_Cut_L0 Gparse_Text_L2_v1 Gslices_Index_string_string Gparse_form_take) (loopBody (codeAt Tryd.f26 0)) st k) [1, 11, 12, 13] (loopK 0 (kn parse_Text_L0_lo k)) n (parse_Text_L0_h0 a_1 a_2 a_3 a_4 a_5 a_6 a_7 a_8 a_9 a_10)) (fun r0 => k .ret (parse_Text_L0_x0 r0)) (k .normal (parse_Text_L0_x1)) a_1 a_2 a_3 a_4 a_5 a_6 a_7 a_8 a_9 a_10 := by kernel_rfl
theorem parse_Text_L0_l0_eq (k : Kont) : ∀ (n : Nat) (a_1 a_2 a_3 a_4 a_5 a_6 a_7 a_8 a_9 : Int) (a_10 : Nat → Nat → PV), loopN (fun st k => exec (parse_Text_L0_C words_Cut_L0 parse_Text_L2_v1 slices_Index_string_string parse_form_take) (loopBody (codeAt Tryd.f26 0)) st k) [1, 11, 12, 13] (loopK 0 (kn parse_Text_L0_lo k)) n (parse_Text_L0_h0 a_1 a_2 a_3 a_4 a_5 a_6 a_7 a_8 a_9 a_10) = parse_Text_L0_l0 (fun r0 => k .ret (parse_Text_L0_x0 r0)) (k .normal (parse_Text_L0_x1)) n a_1 a_2 a_3 a_4 a_5 a_6 a_7 a_8 a_9 a_10
  | 0, _, _, _, _, _, _, _, _, _, _ => rfl
  | n + 1, a_1, a_2, a_3, a_4, a_5, a_6, a_7, a_8, a_9, a_10 => by
    have r0 : (fun a_1 a_2 a_3 a_4 a_5 a_6 a_7 a_8 a_9 a_10 => loopN (fun st k => exec (parse_Text_L0_C words_Cut_L0 parse_Text_L2_v1 slices_Index_string_string parse_form_take) (loopBody (codeAt Tryd.f26 0)) st k) [1, 11, 12, 13] (loopK 0 (kn parse_Text_L0_lo k)) n (parse_Text_L0_h0 a_1 a_2 a_3 a_4 a_5 a_6 a_7 a_8 a_9 a_10)) = parse_Text_L0_l0 (fun r0 => k .ret (parse_Text_L0_x0 r0)) (k .normal (parse_Text_L0_x1)) n := funext fun a_1 => funext fun a_2 => funext fun a_3 => funext fun a_4 => funext fun a_5 => funext fun a_6 => funext fun a_7 => funext fun a_8 => funext fun a_9 => funext fun a_10 => parse_Text_L0_l0_eq k n a_1 a_2 a_3 a_4 a_5 a_6 a_7 a_8 a_9 a_10
    exact (parse_Text_L0_s0_eq words_Cut_L0 parse_Text_L2_v1 slices_Index_string_string parse_form_take k n a_1 a_2 a_3 a_4 a_5 a_6 a_7 a_8 a_9 a_10).trans (by rw [r0]; rfl)
def parse_Text_L0 {α : Type} (a_1 a_2 a_3 a_4 a_5 a_6 a_7 a_8 : Int) (a_9 : Nat → Nat → PV) (k0 : ByteArray → Option α) (k1 : Option α) : Option α := parse_Text_L0_l0 k0 k1 18446744073709551616 0 a_1 a_2 a_3 a_4 a_5 a_6 a_7 a_8 a_9
def parse_Text_L0_e (a_1 a_2 a_3 a_4 a_5 a_6 a_7 a_8 : Int) (a_9 : Nat → Nat → PV) : St := { n := 49, m := 0, t := [(1, .v (.c (.ptr 0 0))), (11, .v (.c (.own 1))), (12, .v (.c (.pv (.val (.int .i64 16))))), (13, .v (.c (.pv (.val (.int .i64 0)))))], h := [(0, .cells false [.pv (.val (.int .i64 a_1)), .pv (.val (.int .i64 a_2)), .pv (.val (.int .i64 a_3)), .pv (.val (.int .i64 a_4)), .pv (.val (.int .i64 a_5)), .pv (.val (.int .u8 a_6)), .pv (.val (.int .u8 a_7)), .pv (.val (.int .u64 a_8))]), (1, .parr false false (.int .i64 (.int .i64 (.int .i64 (.int .i64 (.int .i64 (.int .u8 (.int .u8 (.int .u64 (.str .nil))))))))) 9 16 (a_9))], nx := 2 }
theorem parse_Text_L0_eq (a_1 a_2 a_3 a_4 a_5 a_6 a_7 a_8 : Int) (a_9 : Nat → Nat → PV) (k : Kont) : exec (parse_Text_L0_C words_Cut_L0 parse_Text_L2_v1 slices_Index_string_string parse_form_take) (codeAt Tryd.f26 0) (parse_Text_L0_e a_1 a_2 a_3 a_4 a_5 a_6 a_7 a_8 a_9) (kn parse_Text_L0_lo k) = parse_Text_L0 a_1 a_2 a_3 a_4 a_5 a_6 a_7 a_8 a_9 (fun r0 => k .ret (parse_Text_L0_x0 r0)) (k .normal (parse_Text_L0_x1)) :=
  (by kernel_rfl : _ = loopN (fun st k => exec (parse_Text_L0_C words_Cut_L0 parse_Text_L2_v1 slices_Index_string_string parse_form_take) (loopBody (codeAt Tryd.f26 0)) st k) [1, 11, 12, 13] (loopK 0 (kn parse_Text_L0_lo k)) 18446744073709551616 (parse_Text_L0_h0 0 a_1 a_2 a_3 a_4 a_5 a_6 a_7 a_8 a_9)).trans (parse_Text_L0_l0_eq k 18446744073709551616 0 a_1 a_2 a_3 a_4 a_5 a_6 a_7 a_8 a_9)
def parse_Text_L0_p : PSt := { n := 49, m := 0, t := [(1, .v (.c (.ptr 0 0))), (11, .v (.c (.own 1))), (12, .v (.c (.pv (.int .i64 (.l 16))))), (13, .v (.c (.pv (.int .i64 (.l 0)))))], h := [(0, .cells (.l false) [.pv (.int .i64 .h), .pv (.int .i64 .h), .pv (.int .i64 .h), .pv (.int .i64 .h), .pv (.int .i64 .h), .pv (.int .u8 .h), .pv (.int .u8 .h), .pv (.int .u64 .h)]), (1, .parr (.l false) (.l false) (.int .i64 (.int .i64 (.int .i64 (.int .i64 (.int .i64 (.int .u8 (.int .u8 (.int .u64 (.str .nil))))))))) 9 (.l 16))], nx := 2 }
def parse_Text_L0_F (h : List Hole) (k : Kont) : Option Out := parse_Text_L0 (gI h 0) (gI h 1) (gI h 2) (gI h 3) (gI h 4) (gI h 5) (gI h 6) (gI h 7) (gF h 8) (fun r0 => k .ret (parse_Text_L0_x0 r0)) (k .normal (parse_Text_L0_x1))
theorem parse_Text_L0_at (h : List Hole) : BodyAt Tryd.prog (codeAt Tryd.f26 0) (stFill parse_Text_L0_p h) (parse_Text_L0_F h) := by
  have e : stFill parse_Text_L0_p h = parse_Text_L0_e (gI h 0) (gI h 1) (gI h 2) (gI h 3) (gI h 4) (gI h 5) (gI h 6) (gI h 7) (gF h 8) := by kernel_rfl
  rw [e]; exact bodyAt_of (C := parse_Text_L0_C words_Cut_L0 parse_Text_L2_v1 slices_Index_string_string parse_form_take) ⟨ttOk, eqOk, runS_ok ttOk eqOk mixed (names_ok namesOk) (S := parse_Text_L0_S words_Cut_L0 parse_Text_L2_v1 slices_Index_string_string parse_form_take) (sums_cons yes22_ok (sums_cons itoa_ok (sums_cons num_ok (sums_cons idx_ok (sums_cons join_ok (sums_cons split_ok (sums_cons (smOf_ok (alts_cons slices_Index_string_string_at alts_nil)) (sums_cons (smOf_ok (alts_cons parse_form_take_at alts_nil)) (sums_nil))))))))) (B := parse_Text_L0_B words_Cut_L0 parse_Text_L2_v1 slices_Index_string_string parse_form_take) (hooks_add (fn := Tryd.f16) (by kernel_rfl) (by kernel_rfl) (blk_cons (bkOf_ok (blts_cons words_Cut_L0_at blts_nil)) blk_nil) (hooks_nil)) opts 40⟩ mixed (hooked_in (by kernel_rfl) (blk_cons (bkOf_ok (blts_cons parse_Text_L2_v1_at (blts_cons parse_Text_L2_at blts_nil))) blk_nil) 0) fun k => parse_Text_L0_eq _ _ _ _ _ _ _ _ _ k
/- weirgate/parse.Text -/
def parse_Text_T {α : Type} (Gparse_Text_L0 : Y11 α) (a_1 a_2 a_3 a_4 a_5 a_6 a_7 a_8 : Int) (k0 : ByteArray → Option α) (k1 : Option α) : Option α := Gparse_Text_L0 a_1 a_2 a_3 a_4 a_5 a_6 a_7 a_8 e1
  (fun r_9 => k0 r_9)
  (k1)
def parse_Text {α : Type} (a_1 a_2 a_3 a_4 a_5 a_6 a_7 a_8 : Int) (k0 : ByteArray → Option α) (k1 : Option α) : Option α := parse_Text_T parse_Text_L0 a_1 a_2 a_3 a_4 a_5 a_6 a_7 a_8 k0 k1
def parse_Text_S (Gparse_Text_L0 : Y11 Out) : List (Nat × Sm) := [(22, yes), (34, itoaSm), (13, numSm), (94, idxSm), (33, joinSm), (52, splitSm)]
def parse_Text_B (Gparse_Text_L0 : Y11 Out) : Hooks := [(26, [(0, hookG [1, 11, 12, 13] [] (bkOf [(parse_Text_L0_p, fun h k => Gparse_Text_L0 (gI h 0) (gI h 1) (gI h 2) (gI h 3) (gI h 4) (gI h 5) (gI h 6) (gI h 7) (gF h 8) (fun r0 => k .ret (parse_Text_L0_x0 r0)) (k .normal (parse_Text_L0_x1)))]))])]
theorem parse_Text_eq (Gparse_Text_L0 : Y11 Out) (a_1 a_2 a_3 a_4 a_5 a_6 a_7 a_8 : Int) (k : FK) : runS tt (has eql) Tryd.prog.funcs 18446744073709551616 (parse_Text_S Gparse_Text_L0) (parse_Text_B Gparse_Text_L0) opts 40 26 [.v (.agg [.pv (.val (.int .i64 a_1)), .pv (.val (.int .i64 a_2)), .pv (.val (.int .i64 a_3)), .pv (.val (.int .i64 a_4)), .pv (.val (.int .i64 a_5)), .pv (.val (.int .u8 a_6)), .pv (.val (.int .u8 a_7)), .pv (.val (.int .u64 a_8))])] [] k = parse_Text_T Gparse_Text_L0 a_1 a_2 a_3 a_4 a_5 a_6 a_7 a_8 (fun r0 => k (.tup [.c (.pv (.val (.string r0))), .c (.pv (.val (.int .i64 0)))]) []) (k (.tup [.c (.pv (.val (.string (⟨#[]⟩ : ByteArray)))), .c (.pv (.val (.int .i64 11)))]) []) := by kernel_rfl
def parse_Text_p : PAr := ⟨[.v (.agg [.pv (.int .i64 .h), .pv (.int .i64 .h), .pv (.int .i64 .h), .pv (.int .i64 .h), .pv (.int .i64 .h), .pv (.int .u8 .h), .pv (.int .u8 .h), .pv (.int .u64 .h)])], []⟩
def parse_Text_F (h : List Hole) (k : FK) : Option Out := parse_Text (gI h 0) (gI h 1) (gI h 2) (gI h 3) (gI h 4) (gI h 5) (gI h 6) (gI h 7) (fun r0 => k (.tup [.c (.pv (.val (.string r0))), .c (.pv (.val (.int .i64 0)))]) []) (k (.tup [.c (.pv (.val (.string (⟨#[]⟩ : ByteArray)))), .c (.pv (.val (.int .i64 11)))]) [])
theorem parse_Text_at (h : List Hole) : CallAt Tryd.prog 26 (arFill parse_Text_p h).1 (arFill parse_Text_p h).2 (parse_Text_F h) := by
  have e : arFill parse_Text_p h = ([.v (.agg [.pv (.val (.int .i64 (gI h 0))), .pv (.val (.int .i64 (gI h 1))), .pv (.val (.int .i64 (gI h 2))), .pv (.val (.int .i64 (gI h 3))), .pv (.val (.int .i64 (gI h 4))), .pv (.val (.int .u8 (gI h 5))), .pv (.val (.int .u8 (gI h 6))), .pv (.val (.int .u64 (gI h 7)))])], []) := by kernel_rfl
  rw [e]; exact callAt_of (runS_ok ttOk eqOk mixed (names_ok namesOk) (S := parse_Text_S parse_Text_L0) (sums_cons yes22_ok (sums_cons itoa_ok (sums_cons num_ok (sums_cons idx_ok (sums_cons join_ok (sums_cons split_ok (sums_nil))))))) (B := parse_Text_B parse_Text_L0) (hooks_add (fn := Tryd.f26) (by kernel_rfl) (by kernel_rfl) (blk_cons (bkOf_ok (blts_cons parse_Text_L0_at blts_nil)) blk_nil) (hooks_nil)) opts 40) fun k => parse_Text_eq parse_Text_L0 _ _ _ _ _ _ _ _ k
def e24 : Nat → Nat → PV := rowOf 1 [.val (.string (⟨#[112, 114, 105, 111, 114, 105, 116, 121]⟩ : ByteArray)), .val (.string (⟨#[35]⟩ : ByteArray))]
def e25 : Nat → Nat → PV := rowOf 1 [.val (.string (⟨#[97, 103, 101]⟩ : ByteArray)), .val (.string (⟨#[35]⟩ : ByteArray))]
def e26 : Nat → Nat → PV := rowOf 1 [.val (.string (⟨#[100, 101, 108, 97, 121]⟩ : ByteArray)), .val (.string (⟨#[35]⟩ : ByteArray))]
def e27 : Nat → Nat → PV := rowOf 1 [.val (.string (⟨#[112, 111, 114, 116]⟩ : ByteArray)), .val (.string (⟨#[35]⟩ : ByteArray)), .val (.string (⟨#[117, 112]⟩ : ByteArray))]
def e28 : Nat → Nat → PV := rowOf 1 [.val (.string (⟨#[112, 111, 114, 116]⟩ : ByteArray)), .val (.string (⟨#[35]⟩ : ByteArray)), .val (.string (⟨#[100, 111, 119, 110]⟩ : ByteArray))]
def e29 : Nat → Nat → PV := rowOf 1 [.val (.string (⟨#[112, 111, 114, 116]⟩ : ByteArray)), .val (.string (⟨#[35]⟩ : ByteArray)), .val (.string (⟨#[99, 111, 115, 116]⟩ : ByteArray)), .val (.string (⟨#[35]⟩ : ByteArray))]
def e30 : Nat → Nat → PV := rowOf 1 [.val (.string (⟨#[112, 111, 114, 116]⟩ : ByteArray)), .val (.string (⟨#[35]⟩ : ByteArray)), .val (.string (⟨#[112, 118, 105, 100]⟩ : ByteArray)), .val (.string (⟨#[35]⟩ : ByteArray))]
def e31 : Nat → Nat → PV := rowOf 1 [.val (.string (⟨#[118, 108, 97, 110]⟩ : ByteArray)), .val (.string (⟨#[35]⟩ : ByteArray)), .val (.string (⟨#[109, 101, 109, 98, 101, 114, 115]⟩ : ByteArray)), .val (.string (⟨#[35]⟩ : ByteArray)), .val (.string (⟨#[116, 97, 103, 103, 101, 100]⟩ : ByteArray)), .val (.string (⟨#[35]⟩ : ByteArray))]
def e32 : Nat → Nat → PV := rowOf 1 [.val (.string (⟨#[110, 111]⟩ : ByteArray)), .val (.string (⟨#[118, 108, 97, 110]⟩ : ByteArray)), .val (.string (⟨#[35]⟩ : ByteArray))]
def e33 : Nat → Nat → PV := rowOf 1 [.val (.string (⟨#[115, 116, 97, 116, 105, 99]⟩ : ByteArray)), .val (.string (⟨#[64]⟩ : ByteArray)), .val (.string (⟨#[118, 108, 97, 110]⟩ : ByteArray)), .val (.string (⟨#[35]⟩ : ByteArray)), .val (.string (⟨#[112, 111, 114, 116]⟩ : ByteArray)), .val (.string (⟨#[35]⟩ : ByteArray))]
def e34 : Nat → Nat → PV := rowOf 1 [.val (.string (⟨#[110, 111]⟩ : ByteArray)), .val (.string (⟨#[115, 116, 97, 116, 105, 99]⟩ : ByteArray)), .val (.string (⟨#[64]⟩ : ByteArray)), .val (.string (⟨#[118, 108, 97, 110]⟩ : ByteArray)), .val (.string (⟨#[35]⟩ : ByteArray))]
def e35 : Nat → Nat → PV := rowOf 1 [.val (.string (⟨#[115, 104, 111, 119]⟩ : ByteArray)), .val (.string (⟨#[99, 111, 110, 102, 105, 103]⟩ : ByteArray))]
def e36 : Nat → Nat → PV := rowOf 1 [.val (.string (⟨#[115, 104, 111, 119]⟩ : ByteArray)), .val (.string (⟨#[112, 111, 114, 116, 115]⟩ : ByteArray))]
def e37 : Nat → Nat → PV := rowOf 1 [.val (.string (⟨#[115, 104, 111, 119]⟩ : ByteArray)), .val (.string (⟨#[116, 97, 98, 108, 101]⟩ : ByteArray))]
def e38 : Nat → Nat → PV := rowOf 1 [.sl false (.str .nil) 1 2 (e24), .sl false (.str .nil) 1 2 (e25), .sl false (.str .nil) 1 2 (e26), .sl false (.str .nil) 1 3 (e27), .sl false (.str .nil) 1 3 (e28), .sl false (.str .nil) 1 4 (e29), .sl false (.str .nil) 1 4 (e30), .sl false (.str .nil) 1 6 (e31), .sl false (.str .nil) 1 3 (e32), .sl false (.str .nil) 1 6 (e33), .sl false (.str .nil) 1 5 (e34), .sl false (.str .nil) 1 1 (rowOf 1 [.val (.string (⟨#[99, 111, 109, 109, 105, 116]⟩ : ByteArray))]), .sl false (.str .nil) 1 1 (rowOf 1 [.val (.string (⟨#[114, 111, 108, 108, 98, 97, 99, 107]⟩ : ByteArray))]), .sl false (.str .nil) 1 2 (e35), .sl false (.str .nil) 1 2 (e36), .sl false (.str .nil) 1 2 (e37)]
def e39 (x0 : Int) : Int := IntKind.u64.wrap ((IntKind.u64.wrap (IntKind.i64.wrap (0 - (IntKind.i64.wrap (x0 + 1))))) + 1)
def e40 (x0 : Int) : ByteArray := strOf 1 (rowOf 1 [.val (.int .u8 (IntKind.u8.wrap (48 + (IntKind.u8.wrap (x0.tmod 10)))))])
/- weirgate/weirgateref21.Text: loop 0 -/
def ref21_Text_L0_S  : List (Nat × Sm) := [(22, yes), (34, itoaSm), (13, numSm), (94, idxSm), (33, joinSm), (52, splitSm)]
def ref21_Text_L0_B  : Hooks := []
noncomputable def ref21_Text_L0_C  : Ctx := { tt := tt, eqs := has eql, call := runS tt (has eql) Tryd.prog.funcs 18446744073709551616 (ref21_Text_L0_S ) (ref21_Text_L0_B ) opts 40, fuel := 18446744073709551616, blk := fun i => aget [] i, bor := opts.bor }
def ref21_Text_L0_lo : Vx → List Nat := fun | .normal => [0, 4] | .exit j => (fun _ => []) j | .ret => [2]
def ref21_Text_L0_h0 (a_1 a_2 : Int) (a_3 : ByteArray) : St := { n := 31, m := 0, t := [(0, .v (.c (.pv (.val (.int .i64 a_1))))), (3, .v (.c (.pv (.val (.int .u64 a_2))))), (4, .v (.c (.pv (.val (.string a_3)))))], h := [], nx := 0 }
def ref21_Text_L0_x0 (r0 : Int) (r1 : ByteArray) : St := { n := 31, m := 0, t := [(0, .v (.c (.pv (.val (.int .i64 r0))))), (4, .v (.c (.pv (.val (.string r1)))))], h := [], nx := 0 }
def ref21_Text_L0_s0 {α : Type}  (rec0 : Int → Int → ByteArray → Option α) (k0 : Y38 α) (a_1 a_2 : Int) (a_3 : ByteArray) : Option α := bif Nat.ble ((e40 a_2).size + a_3.size) 4611686018427387904 then
  bif ((IntKind.u64.wrap (a_2.tdiv 10)) == 0) then
   k0 a_1 ((e40 a_2) ++ a_3)
  else rec0 a_1 (IntKind.u64.wrap (a_2.tdiv 10)) ((e40 a_2) ++ a_3)
 else none /- test -/
def ref21_Text_L0_l0 {α : Type} (k0 : Y38 α) : Nat → Int → Int → ByteArray → Option α
  | 0 => fun _ _ _ => none
  | n + 1 => ref21_Text_L0_s0  (ref21_Text_L0_l0 k0 n) k0
theorem ref21_Text_L0_s0_eq  (k : Kont) (n : Nat) (a_1 a_2 : Int) (a_3 : ByteArray) : loopN (fun st k => exec (ref21_Text_L0_C ) (loopBody (codeAt Tryd.f21 0)) st k) [0, 3, 4] (loopK 0 (kn ref21_Text_L0_lo k)) (n + 1) (ref21_Text_L0_h0 a_1 a_2 a_3) = ref21_Text_L0_s0  (fun a_1 a_2 a_3 => loopN (fun st k => exec (ref21_Text_L0_C ) (loopBody (codeAt Tryd.f21 0)) st k) [0, 3, 4] (loopK 0 (kn ref21_Text_L0_lo k)) n (ref21_Text_L0_h0 a_1 a_2 a_3)) (fun r0 r1 => k .normal (ref21_Text_L0_x0 r0 r1)) a_1 a_2 a_3 := by kernel_rfl
theorem ref21_Text_L0_l0_eq (k : Kont) : ∀ (n : Nat) (a_1 a_2 : Int) (a_3 : ByteArray), loopN (fun st k => exec (ref21_Text_L0_C ) (loopBody (codeAt Tryd.f21 0)) st k) [0, 3, 4] (loopK 0 (kn ref21_Text_L0_lo k)) n (ref21_Text_L0_h0 a_1 a_2 a_3) = ref21_Text_L0_l0 (fun r0 r1 => k .normal (ref21_Text_L0_x0 r0 r1)) n a_1 a_2 a_3
  | 0, _, _, _ => rfl
  | n + 1, a_1, a_2, a_3 => by
    have r0 : (fun a_1 a_2 a_3 => loopN (fun st k => exec (ref21_Text_L0_C ) (loopBody (codeAt Tryd.f21 0)) st k) [0, 3, 4] (loopK 0 (kn ref21_Text_L0_lo k)) n (ref21_Text_L0_h0 a_1 a_2 a_3)) = ref21_Text_L0_l0 (fun r0 r1 => k .normal (ref21_Text_L0_x0 r0 r1)) n := funext fun a_1 => funext fun a_2 => funext fun a_3 => ref21_Text_L0_l0_eq k n a_1 a_2 a_3
    exact (ref21_Text_L0_s0_eq  k n a_1 a_2 a_3).trans (by rw [r0]; rfl)
def ref21_Text_L0 {α : Type} (a_1 a_2 : Int) (k0 : Y38 α) : Option α := ref21_Text_L0_l0 k0 18446744073709551616 a_1 a_2 (⟨#[]⟩ : ByteArray)
def ref21_Text_L0_e (a_1 a_2 : Int) : St := { n := 31, m := 0, t := [(0, .v (.c (.pv (.val (.int .i64 a_1))))), (3, .v (.c (.pv (.val (.int .u64 a_2))))), (4, .v (.c (.pv (.val (.string (⟨#[]⟩ : ByteArray))))))], h := [], nx := 0 }
theorem ref21_Text_L0_eq (a_1 a_2 : Int) (k : Kont) : exec (ref21_Text_L0_C ) (codeAt Tryd.f21 0) (ref21_Text_L0_e a_1 a_2) (kn ref21_Text_L0_lo k) = ref21_Text_L0 a_1 a_2 (fun r0 r1 => k .normal (ref21_Text_L0_x0 r0 r1)) :=
  (by kernel_rfl : _ = loopN (fun st k => exec (ref21_Text_L0_C ) (loopBody (codeAt Tryd.f21 0)) st k) [0, 3, 4] (loopK 0 (kn ref21_Text_L0_lo k)) 18446744073709551616 (ref21_Text_L0_h0 a_1 a_2 (⟨#[]⟩ : ByteArray))).trans (ref21_Text_L0_l0_eq k 18446744073709551616 a_1 a_2 (⟨#[]⟩ : ByteArray))
def ref21_Text_L0_p : PSt := { n := 31, m := 0, t := [(0, .v (.c (.pv (.int .i64 .h)))), (3, .v (.c (.pv (.int .u64 .h)))), (4, .v (.c (.pv (.strl []))))], h := [], nx := 0 }
def ref21_Text_L0_F (h : List Hole) (k : Kont) : Option Out := ref21_Text_L0 (gI h 0) (gI h 1) (fun r0 r1 => k .normal (ref21_Text_L0_x0 r0 r1))
theorem ref21_Text_L0_at (h : List Hole) : BodyAt Tryd.prog (codeAt Tryd.f21 0) (stFill ref21_Text_L0_p h) (ref21_Text_L0_F h) := by
  have e : stFill ref21_Text_L0_p h = ref21_Text_L0_e (gI h 0) (gI h 1) := by kernel_rfl
  rw [e]; exact bodyAt_of (C := ref21_Text_L0_C ) ⟨ttOk, eqOk, runS_ok ttOk eqOk mixed (names_ok namesOk) (S := ref21_Text_L0_S ) (sums_cons yes22_ok (sums_cons itoa_ok (sums_cons num_ok (sums_cons idx_ok (sums_cons join_ok (sums_cons split_ok (sums_nil))))))) (B := ref21_Text_L0_B ) (hooks_nil) opts 40⟩ mixed (hooked_in (by kernel_rfl) blk_nil 0) fun k => ref21_Text_L0_eq _ _ k
/- weirgate/weirgateref21.Text -/
def ref21_Text_T {α : Type} (Gref21_Text_L0 : Y31 α) (a_1 : Int) (k0 : ByteArray → Option α) : Option α := bif decide (a_1 < 0) then
  Gref21_Text_L0 a_1 (e39 a_1)
   (fun r_2 r_3 => bif decide (r_2 < 0) then
    bif Nat.ble ((⟨#[45]⟩ : ByteArray).size + r_3.size) 4611686018427387904 then
     k0 ((⟨#[45]⟩ : ByteArray) ++ r_3)
    else none /- test -/
   else k0 r_3)
 else Gref21_Text_L0 a_1 (IntKind.u64.wrap a_1)
  (fun r_2 r_3 => bif decide (r_2 < 0) then
   bif Nat.ble ((⟨#[45]⟩ : ByteArray).size + r_3.size) 4611686018427387904 then
    k0 ((⟨#[45]⟩ : ByteArray) ++ r_3)
   else none /- test -/
  else k0 r_3)
def ref21_Text {α : Type} (a_1 : Int) (k0 : ByteArray → Option α) : Option α := ref21_Text_T ref21_Text_L0 a_1 k0
def ref21_Text_S (Gref21_Text_L0 : Y31 Out) : List (Nat × Sm) := [(22, yes), (34, itoaSm), (13, numSm), (94, idxSm), (33, joinSm), (52, splitSm)]
def ref21_Text_B (Gref21_Text_L0 : Y31 Out) : Hooks := [(21, [(0, hookG [0, 3, 4] [] (bkOf [(ref21_Text_L0_p, fun h k => Gref21_Text_L0 (gI h 0) (gI h 1) (fun r0 r1 => k .normal (ref21_Text_L0_x0 r0 r1)))]))])]
theorem ref21_Text_eq (Gref21_Text_L0 : Y31 Out) (a_1 : Int) (k : FK) : runS tt (has eql) Tryd.prog.funcs 18446744073709551616 (ref21_Text_S Gref21_Text_L0) (ref21_Text_B Gref21_Text_L0) opts 40 21 [.v (.c (.pv (.val (.int .i64 a_1))))] [] k = ref21_Text_T Gref21_Text_L0 a_1 (fun r0 => k (.v (.c (.pv (.val (.string r0))))) []) := by kernel_rfl
def ref21_Text_p : PAr := ⟨[.v (.c (.pv (.int .i64 .h)))], []⟩
def ref21_Text_F (h : List Hole) (k : FK) : Option Out := ref21_Text (gI h 0) (fun r0 => k (.v (.c (.pv (.val (.string r0))))) [])
theorem ref21_Text_at (h : List Hole) : CallAt Tryd.prog 21 (arFill ref21_Text_p h).1 (arFill ref21_Text_p h).2 (ref21_Text_F h) := by
  have e : arFill ref21_Text_p h = ([.v (.c (.pv (.val (.int .i64 (gI h 0)))))], []) := by kernel_rfl
  rw [e]; exact callAt_of (runS_ok ttOk eqOk mixed (names_ok namesOk) (S := ref21_Text_S ref21_Text_L0) (sums_cons yes22_ok (sums_cons itoa_ok (sums_cons num_ok (sums_cons idx_ok (sums_cons join_ok (sums_cons split_ok (sums_nil))))))) (B := ref21_Text_B ref21_Text_L0) (hooks_add (fn := Tryd.f21) (by kernel_rfl) (by kernel_rfl) (blk_cons (bkOf_ok (blts_cons ref21_Text_L0_at blts_nil)) blk_nil) (hooks_nil)) opts 40) fun k => ref21_Text_eq ref21_Text_L0 _ k
/- weirgate/weirgateref21.Join: loop 0 -/
def ref21_Join_L0_S  : List (Nat × Sm) := [(22, yes), (34, itoaSm), (13, numSm), (94, idxSm), (33, joinSm), (52, splitSm)]
def ref21_Join_L0_B  : Hooks := []
noncomputable def ref21_Join_L0_C  : Ctx := { tt := tt, eqs := has eql, call := runS tt (has eql) Tryd.prog.funcs 18446744073709551616 (ref21_Join_L0_S ) (ref21_Join_L0_B ) opts 40, fuel := 18446744073709551616, blk := fun i => aget [] i, bor := opts.bor }
def ref21_Join_L0_lo : Vx → List Nat := fun | .normal => [3] | .exit j => (fun _ => []) j | .ret => [2]
def ref21_Join_L0_h0 (a_1 : Bool) (a_2 : Nat) (a_3 : Nat → Nat → PV) (a_4 : ByteArray) (a_5 : Int) : St := { n := 27, m := 0, t := [(0, .v (.c (.pv (.sl a_1 (.str .nil) 1 a_2 (a_3))))), (3, .v (.c (.pv (.val (.string a_4))))), (4, .v (.c (.pv (.val (.int .i64 a_5)))))], h := [], nx := 0 }
def ref21_Join_L0_x0 (r0 : ByteArray) : St := { n := 27, m := 0, t := [(3, .v (.c (.pv (.val (.string r0)))))], h := [], nx := 0 }
def ref21_Join_L0_s0 {α : Type}  (rec0 : Bool → Nat → (Nat → Nat → PV) → ByteArray → Int → Option α) (k0 : ByteArray → Option α) (a_1 : Bool) (a_2 : Nat) (a_3 : Nat → Nat → PV) (a_4 : ByteArray) (a_5 : Int) : Option α := bif decide (a_5 < (a_2 : Int)) then
  bif inb a_5 a_2 then
   bif ((textOf (a_3 a_5.toNat 0)).toList == (⟨#[]⟩ : ByteArray).toList) then
    rec0 a_1 a_2 a_3 a_4 (IntKind.i64.wrap (a_5 + 1))
   else bif !(a_4.toList == (⟨#[]⟩ : ByteArray).toList) then
    bif Nat.ble (a_4.size + (⟨#[32]⟩ : ByteArray).size) 4611686018427387904 then
     bif inb a_5 a_2 then
      bif Nat.ble ((a_4 ++ (⟨#[32]⟩ : ByteArray)).size + (textOf (a_3 a_5.toNat 0)).size) 4611686018427387904 then
       rec0 a_1 a_2 a_3 ((a_4 ++ (⟨#[32]⟩ : ByteArray)) ++ (textOf (a_3 a_5.toNat 0))) (IntKind.i64.wrap (a_5 + 1))
      else none /- test -/
     else none /- test -/
    else none /- test -/
   else bif inb a_5 a_2 then
    bif Nat.ble (a_4.size + (textOf (a_3 a_5.toNat 0)).size) 4611686018427387904 then
     rec0 a_1 a_2 a_3 (a_4 ++ (textOf (a_3 a_5.toNat 0))) (IntKind.i64.wrap (a_5 + 1))
    else none /- test -/
   else none /- test -/
  else none /- test -/
 else k0 a_4
def ref21_Join_L0_l0 {α : Type} (k0 : ByteArray → Option α) : Nat → Bool → Nat → (Nat → Nat → PV) → ByteArray → Int → Option α
  | 0 => fun _ _ _ _ _ => none
  | n + 1 => ref21_Join_L0_s0  (ref21_Join_L0_l0 k0 n) k0
theorem ref21_Join_L0_s0_eq  (k : Kont) (n : Nat) (a_1 : Bool) (a_2 : Nat) (a_3 : Nat → Nat → PV) (a_4 : ByteArray) (a_5 : Int) : loopN (fun st k => exec (ref21_Join_L0_C ) (loopBody (codeAt Tryd.f19 0)) st k) [0, 3, 4] (loopK 0 (kn ref21_Join_L0_lo k)) (n + 1) (ref21_Join_L0_h0 a_1 a_2 a_3 a_4 a_5) = ref21_Join_L0_s0  (fun a_1 a_2 a_3 a_4 a_5 => loopN (fun st k => exec (ref21_Join_L0_C ) (loopBody (codeAt Tryd.f19 0)) st k) [0, 3, 4] (loopK 0 (kn ref21_Join_L0_lo k)) n (ref21_Join_L0_h0 a_1 a_2 a_3 a_4 a_5)) (fun r0 => k .normal (ref21_Join_L0_x0 r0)) a_1 a_2 a_3 a_4 a_5 := by kernel_rfl
theorem ref21_Join_L0_l0_eq (k : Kont) : ∀ (n : Nat) (a_1 : Bool) (a_2 : Nat) (a_3 : Nat → Nat → PV) (a_4 : ByteArray) (a_5 : Int), loopN (fun st k => exec (ref21_Join_L0_C ) (loopBody (codeAt Tryd.f19 0)) st k) [0, 3, 4] (loopK 0 (kn ref21_Join_L0_lo k)) n (ref21_Join_L0_h0 a_1 a_2 a_3 a_4 a_5) = ref21_Join_L0_l0 (fun r0 => k .normal (ref21_Join_L0_x0 r0)) n a_1 a_2 a_3 a_4 a_5
  | 0, _, _, _, _, _ => rfl
  | n + 1, a_1, a_2, a_3, a_4, a_5 => by
    have r0 : (fun a_1 a_2 a_3 a_4 a_5 => loopN (fun st k => exec (ref21_Join_L0_C ) (loopBody (codeAt Tryd.f19 0)) st k) [0, 3, 4] (loopK 0 (kn ref21_Join_L0_lo k)) n (ref21_Join_L0_h0 a_1 a_2 a_3 a_4 a_5)) = ref21_Join_L0_l0 (fun r0 => k .normal (ref21_Join_L0_x0 r0)) n := funext fun a_1 => funext fun a_2 => funext fun a_3 => funext fun a_4 => funext fun a_5 => ref21_Join_L0_l0_eq k n a_1 a_2 a_3 a_4 a_5
    exact (ref21_Join_L0_s0_eq  k n a_1 a_2 a_3 a_4 a_5).trans (by rw [r0]; rfl)
def ref21_Join_L0 {α : Type} (a_1 : Bool) (a_2 : Nat) (a_3 : Nat → Nat → PV) (k0 : ByteArray → Option α) : Option α := ref21_Join_L0_l0 k0 18446744073709551616 a_1 a_2 a_3 (⟨#[]⟩ : ByteArray) 0
def ref21_Join_L0_e (a_1 : Bool) (a_2 : Nat) (a_3 : Nat → Nat → PV) : St := { n := 27, m := 0, t := [(0, .v (.c (.pv (.sl a_1 (.str .nil) 1 a_2 (a_3))))), (3, .v (.c (.pv (.val (.string (⟨#[]⟩ : ByteArray)))))), (4, .v (.c (.pv (.val (.int .i64 0)))))], h := [], nx := 0 }
theorem ref21_Join_L0_eq (a_1 : Bool) (a_2 : Nat) (a_3 : Nat → Nat → PV) (k : Kont) : exec (ref21_Join_L0_C ) (codeAt Tryd.f19 0) (ref21_Join_L0_e a_1 a_2 a_3) (kn ref21_Join_L0_lo k) = ref21_Join_L0 a_1 a_2 a_3 (fun r0 => k .normal (ref21_Join_L0_x0 r0)) :=
  (by kernel_rfl : _ = loopN (fun st k => exec (ref21_Join_L0_C ) (loopBody (codeAt Tryd.f19 0)) st k) [0, 3, 4] (loopK 0 (kn ref21_Join_L0_lo k)) 18446744073709551616 (ref21_Join_L0_h0 a_1 a_2 a_3 (⟨#[]⟩ : ByteArray) 0)).trans (ref21_Join_L0_l0_eq k 18446744073709551616 a_1 a_2 a_3 (⟨#[]⟩ : ByteArray) 0)
def ref21_Join_L0_p : PSt := { n := 27, m := 0, t := [(0, .v (.c (.pv (.sl .h (.str .nil) 1 .h)))), (3, .v (.c (.pv (.strl [])))), (4, .v (.c (.pv (.int .i64 (.l 0)))))], h := [], nx := 0 }
def ref21_Join_L0_F (h : List Hole) (k : Kont) : Option Out := ref21_Join_L0 (gB h 0) (gN h 1) (gF h 2) (fun r0 => k .normal (ref21_Join_L0_x0 r0))
theorem ref21_Join_L0_at (h : List Hole) : BodyAt Tryd.prog (codeAt Tryd.f19 0) (stFill ref21_Join_L0_p h) (ref21_Join_L0_F h) := by
  have e : stFill ref21_Join_L0_p h = ref21_Join_L0_e (gB h 0) (gN h 1) (gF h 2) := by kernel_rfl
  rw [e]; exact bodyAt_of (C := ref21_Join_L0_C ) ⟨ttOk, eqOk, runS_ok ttOk eqOk mixed (names_ok namesOk) (S := ref21_Join_L0_S ) (sums_cons yes22_ok (sums_cons itoa_ok (sums_cons num_ok (sums_cons idx_ok (sums_cons join_ok (sums_cons split_ok (sums_nil))))))) (B := ref21_Join_L0_B ) (hooks_nil) opts 40⟩ mixed (hooked_in (by kernel_rfl) blk_nil 0) fun k => ref21_Join_L0_eq _ _ _ k
def e41 (x0 : Int) : Nat → Nat → PV := rowOf 1 [.val (.int .u8 (IntKind.u8.wrap (shrI .u64 x0 40))), .val (.int .u8 (IntKind.u8.wrap (shrI .u64 x0 32))), .val (.int .u8 (IntKind.u8.wrap (shrI .u64 x0 24))), .val (.int .u8 (IntKind.u8.wrap (shrI .u64 x0 16))), .val (.int .u8 (IntKind.u8.wrap (shrI .u64 x0 8))), .val (.int .u8 (IntKind.u8.wrap x0))]
def e42 (x0 : Int) : ByteArray := (⟨#[48, 49, 50, 51, 52, 53, 54, 55, 56, 57, 97, 98, 99, 100, 101, 102]⟩ : ByteArray).extract ((IntKind.u8.wrap ((IntKind.u8.wrap (shrI .u64 x0 40)).tdiv 16)).toNat) (((IntKind.u8.wrap ((IntKind.u8.wrap (shrI .u64 x0 40)).tdiv 16)).toNat) + (((IntKind.u8.wrap ((IntKind.u8.wrap ((IntKind.u8.wrap (shrI .u64 x0 40)).tdiv 16)) + 1)).toNat) - ((IntKind.u8.wrap ((IntKind.u8.wrap (shrI .u64 x0 40)).tdiv 16)).toNat)))
def e43 (x0 : Int) : ByteArray := (⟨#[48, 49, 50, 51, 52, 53, 54, 55, 56, 57, 97, 98, 99, 100, 101, 102]⟩ : ByteArray).extract (((IntKind.u8.wrap (shrI .u64 x0 40)).tmod 16).toNat) ((((IntKind.u8.wrap (shrI .u64 x0 40)).tmod 16).toNat) + (((IntKind.u8.wrap (((IntKind.u8.wrap (shrI .u64 x0 40)).tmod 16) + 1)).toNat) - (((IntKind.u8.wrap (shrI .u64 x0 40)).tmod 16).toNat)))
def e44 (x0 : Int) : ByteArray := (⟨#[48, 49, 50, 51, 52, 53, 54, 55, 56, 57, 97, 98, 99, 100, 101, 102]⟩ : ByteArray).extract ((IntKind.u8.wrap ((IntKind.u8.wrap (shrI .u64 x0 32)).tdiv 16)).toNat) (((IntKind.u8.wrap ((IntKind.u8.wrap (shrI .u64 x0 32)).tdiv 16)).toNat) + (((IntKind.u8.wrap ((IntKind.u8.wrap ((IntKind.u8.wrap (shrI .u64 x0 32)).tdiv 16)) + 1)).toNat) - ((IntKind.u8.wrap ((IntKind.u8.wrap (shrI .u64 x0 32)).tdiv 16)).toNat)))
def e45 (x0 : Int) : ByteArray := (⟨#[48, 49, 50, 51, 52, 53, 54, 55, 56, 57, 97, 98, 99, 100, 101, 102]⟩ : ByteArray).extract (((IntKind.u8.wrap (shrI .u64 x0 32)).tmod 16).toNat) ((((IntKind.u8.wrap (shrI .u64 x0 32)).tmod 16).toNat) + (((IntKind.u8.wrap (((IntKind.u8.wrap (shrI .u64 x0 32)).tmod 16) + 1)).toNat) - (((IntKind.u8.wrap (shrI .u64 x0 32)).tmod 16).toNat)))
def e46 (x0 : Int) : ByteArray := (((⟨#[]⟩ : ByteArray) ++ ((e42 x0) ++ (e43 x0))) ++ (⟨#[58]⟩ : ByteArray)) ++ ((e44 x0) ++ (e45 x0))
def e47 (x0 : Int) : ByteArray := (⟨#[48, 49, 50, 51, 52, 53, 54, 55, 56, 57, 97, 98, 99, 100, 101, 102]⟩ : ByteArray).extract ((IntKind.u8.wrap ((IntKind.u8.wrap (shrI .u64 x0 24)).tdiv 16)).toNat) (((IntKind.u8.wrap ((IntKind.u8.wrap (shrI .u64 x0 24)).tdiv 16)).toNat) + (((IntKind.u8.wrap ((IntKind.u8.wrap ((IntKind.u8.wrap (shrI .u64 x0 24)).tdiv 16)) + 1)).toNat) - ((IntKind.u8.wrap ((IntKind.u8.wrap (shrI .u64 x0 24)).tdiv 16)).toNat)))
def e48 (x0 : Int) : ByteArray := (⟨#[48, 49, 50, 51, 52, 53, 54, 55, 56, 57, 97, 98, 99, 100, 101, 102]⟩ : ByteArray).extract (((IntKind.u8.wrap (shrI .u64 x0 24)).tmod 16).toNat) ((((IntKind.u8.wrap (shrI .u64 x0 24)).tmod 16).toNat) + (((IntKind.u8.wrap (((IntKind.u8.wrap (shrI .u64 x0 24)).tmod 16) + 1)).toNat) - (((IntKind.u8.wrap (shrI .u64 x0 24)).tmod 16).toNat)))
def e49 (x0 : Int) : ByteArray := (((e46 x0) ++ (⟨#[58]⟩ : ByteArray)) ++ ((e47 x0) ++ (e48 x0))) ++ (⟨#[58]⟩ : ByteArray)
def e50 (x0 : Int) : ByteArray := (⟨#[48, 49, 50, 51, 52, 53, 54, 55, 56, 57, 97, 98, 99, 100, 101, 102]⟩ : ByteArray).extract ((IntKind.u8.wrap ((IntKind.u8.wrap (shrI .u64 x0 16)).tdiv 16)).toNat) (((IntKind.u8.wrap ((IntKind.u8.wrap (shrI .u64 x0 16)).tdiv 16)).toNat) + (((IntKind.u8.wrap ((IntKind.u8.wrap ((IntKind.u8.wrap (shrI .u64 x0 16)).tdiv 16)) + 1)).toNat) - ((IntKind.u8.wrap ((IntKind.u8.wrap (shrI .u64 x0 16)).tdiv 16)).toNat)))
def e51 (x0 : Int) : ByteArray := (⟨#[48, 49, 50, 51, 52, 53, 54, 55, 56, 57, 97, 98, 99, 100, 101, 102]⟩ : ByteArray).extract (((IntKind.u8.wrap (shrI .u64 x0 16)).tmod 16).toNat) ((((IntKind.u8.wrap (shrI .u64 x0 16)).tmod 16).toNat) + (((IntKind.u8.wrap (((IntKind.u8.wrap (shrI .u64 x0 16)).tmod 16) + 1)).toNat) - (((IntKind.u8.wrap (shrI .u64 x0 16)).tmod 16).toNat)))
def e52 (x0 : Int) : ByteArray := (⟨#[48, 49, 50, 51, 52, 53, 54, 55, 56, 57, 97, 98, 99, 100, 101, 102]⟩ : ByteArray).extract ((IntKind.u8.wrap ((IntKind.u8.wrap (shrI .u64 x0 8)).tdiv 16)).toNat) (((IntKind.u8.wrap ((IntKind.u8.wrap (shrI .u64 x0 8)).tdiv 16)).toNat) + (((IntKind.u8.wrap ((IntKind.u8.wrap ((IntKind.u8.wrap (shrI .u64 x0 8)).tdiv 16)) + 1)).toNat) - ((IntKind.u8.wrap ((IntKind.u8.wrap (shrI .u64 x0 8)).tdiv 16)).toNat)))
def e53 (x0 : Int) : ByteArray := (⟨#[48, 49, 50, 51, 52, 53, 54, 55, 56, 57, 97, 98, 99, 100, 101, 102]⟩ : ByteArray).extract (((IntKind.u8.wrap (shrI .u64 x0 8)).tmod 16).toNat) ((((IntKind.u8.wrap (shrI .u64 x0 8)).tmod 16).toNat) + (((IntKind.u8.wrap (((IntKind.u8.wrap (shrI .u64 x0 8)).tmod 16) + 1)).toNat) - (((IntKind.u8.wrap (shrI .u64 x0 8)).tmod 16).toNat)))
def e54 (x0 : Int) : ByteArray := (((e49 x0) ++ ((e50 x0) ++ (e51 x0))) ++ (⟨#[58]⟩ : ByteArray)) ++ ((e52 x0) ++ (e53 x0))
def e55 (x0 : Int) : ByteArray := (⟨#[48, 49, 50, 51, 52, 53, 54, 55, 56, 57, 97, 98, 99, 100, 101, 102]⟩ : ByteArray).extract ((IntKind.u8.wrap ((IntKind.u8.wrap x0).tdiv 16)).toNat) (((IntKind.u8.wrap ((IntKind.u8.wrap x0).tdiv 16)).toNat) + (((IntKind.u8.wrap ((IntKind.u8.wrap ((IntKind.u8.wrap x0).tdiv 16)) + 1)).toNat) - ((IntKind.u8.wrap ((IntKind.u8.wrap x0).tdiv 16)).toNat)))
def e56 (x0 : Int) : ByteArray := (⟨#[48, 49, 50, 51, 52, 53, 54, 55, 56, 57, 97, 98, 99, 100, 101, 102]⟩ : ByteArray).extract (((IntKind.u8.wrap x0).tmod 16).toNat) ((((IntKind.u8.wrap x0).tmod 16).toNat) + (((IntKind.u8.wrap (((IntKind.u8.wrap x0).tmod 16) + 1)).toNat) - (((IntKind.u8.wrap x0).tmod 16).toNat)))
/- weirgate/weirgateref09.Text -/
def ref09_Text_T {α : Type}  (a_1 : Int) (k0 : ByteArray → Option α) : Option α := bif !(decide (a_1 < 281474976710656)) then
  k0 (⟨#[]⟩ : ByteArray)
 else bif inb (IntKind.u8.wrap ((IntKind.u8.wrap ((IntKind.u8.wrap (shrI .u64 a_1 40)).tdiv 16)) + 1)) 17 then
  bif (decide (0 ≤ IntKind.u8.wrap ((IntKind.u8.wrap (shrI .u64 a_1 40)).tdiv 16)) && decide (IntKind.u8.wrap ((IntKind.u8.wrap (shrI .u64 a_1 40)).tdiv 16) ≤ IntKind.u8.wrap ((IntKind.u8.wrap ((IntKind.u8.wrap (shrI .u64 a_1 40)).tdiv 16)) + 1))) then
   bif inb (IntKind.u8.wrap (((IntKind.u8.wrap (shrI .u64 a_1 40)).tmod 16) + 1)) 17 then
    bif (decide (0 ≤ (IntKind.u8.wrap (shrI .u64 a_1 40)).tmod 16) && decide ((IntKind.u8.wrap (shrI .u64 a_1 40)).tmod 16 ≤ IntKind.u8.wrap (((IntKind.u8.wrap (shrI .u64 a_1 40)).tmod 16) + 1))) then
     bif Nat.ble ((e42 a_1).size + (e43 a_1).size) 4611686018427387904 then
      bif Nat.ble ((⟨#[]⟩ : ByteArray).size + ((e42 a_1) ++ (e43 a_1)).size) 4611686018427387904 then
       bif Nat.ble (((⟨#[]⟩ : ByteArray) ++ ((e42 a_1) ++ (e43 a_1))).size + (⟨#[58]⟩ : ByteArray).size) 4611686018427387904 then
        bif inb (IntKind.u8.wrap ((IntKind.u8.wrap ((IntKind.u8.wrap (shrI .u64 a_1 32)).tdiv 16)) + 1)) 17 then
         bif (decide (0 ≤ IntKind.u8.wrap ((IntKind.u8.wrap (shrI .u64 a_1 32)).tdiv 16)) && decide (IntKind.u8.wrap ((IntKind.u8.wrap (shrI .u64 a_1 32)).tdiv 16) ≤ IntKind.u8.wrap ((IntKind.u8.wrap ((IntKind.u8.wrap (shrI .u64 a_1 32)).tdiv 16)) + 1))) then
          bif inb (IntKind.u8.wrap (((IntKind.u8.wrap (shrI .u64 a_1 32)).tmod 16) + 1)) 17 then
           bif (decide (0 ≤ (IntKind.u8.wrap (shrI .u64 a_1 32)).tmod 16) && decide ((IntKind.u8.wrap (shrI .u64 a_1 32)).tmod 16 ≤ IntKind.u8.wrap (((IntKind.u8.wrap (shrI .u64 a_1 32)).tmod 16) + 1))) then
            bif Nat.ble ((e44 a_1).size + (e45 a_1).size) 4611686018427387904 then
             bif Nat.ble ((((⟨#[]⟩ : ByteArray) ++ ((e42 a_1) ++ (e43 a_1))) ++ (⟨#[58]⟩ : ByteArray)).size + ((e44 a_1) ++ (e45 a_1)).size) 4611686018427387904 then
              bif Nat.ble ((e46 a_1).size + (⟨#[58]⟩ : ByteArray).size) 4611686018427387904 then
               bif inb (IntKind.u8.wrap ((IntKind.u8.wrap ((IntKind.u8.wrap (shrI .u64 a_1 24)).tdiv 16)) + 1)) 17 then
                bif (decide (0 ≤ IntKind.u8.wrap ((IntKind.u8.wrap (shrI .u64 a_1 24)).tdiv 16)) && decide (IntKind.u8.wrap ((IntKind.u8.wrap (shrI .u64 a_1 24)).tdiv 16) ≤ IntKind.u8.wrap ((IntKind.u8.wrap ((IntKind.u8.wrap (shrI .u64 a_1 24)).tdiv 16)) + 1))) then
                 bif inb (IntKind.u8.wrap (((IntKind.u8.wrap (shrI .u64 a_1 24)).tmod 16) + 1)) 17 then
                  bif (decide (0 ≤ (IntKind.u8.wrap (shrI .u64 a_1 24)).tmod 16) && decide ((IntKind.u8.wrap (shrI .u64 a_1 24)).tmod 16 ≤ IntKind.u8.wrap (((IntKind.u8.wrap (shrI .u64 a_1 24)).tmod 16) + 1))) then
                   bif Nat.ble ((e47 a_1).size + (e48 a_1).size) 4611686018427387904 then
                    bif Nat.ble (((e46 a_1) ++ (⟨#[58]⟩ : ByteArray)).size + ((e47 a_1) ++ (e48 a_1)).size) 4611686018427387904 then
                     bif Nat.ble ((((e46 a_1) ++ (⟨#[58]⟩ : ByteArray)) ++ ((e47 a_1) ++ (e48 a_1))).size + (⟨#[58]⟩ : ByteArray).size) 4611686018427387904 then
                      bif inb (IntKind.u8.wrap ((IntKind.u8.wrap ((IntKind.u8.wrap (shrI .u64 a_1 16)).tdiv 16)) + 1)) 17 then
                       bif (decide (0 ≤ IntKind.u8.wrap ((IntKind.u8.wrap (shrI .u64 a_1 16)).tdiv 16)) && decide (IntKind.u8.wrap ((IntKind.u8.wrap (shrI .u64 a_1 16)).tdiv 16) ≤ IntKind.u8.wrap ((IntKind.u8.wrap ((IntKind.u8.wrap (shrI .u64 a_1 16)).tdiv 16)) + 1))) then
                        bif inb (IntKind.u8.wrap (((IntKind.u8.wrap (shrI .u64 a_1 16)).tmod 16) + 1)) 17 then
                         bif (decide (0 ≤ (IntKind.u8.wrap (shrI .u64 a_1 16)).tmod 16) && decide ((IntKind.u8.wrap (shrI .u64 a_1 16)).tmod 16 ≤ IntKind.u8.wrap (((IntKind.u8.wrap (shrI .u64 a_1 16)).tmod 16) + 1))) then
                          bif Nat.ble ((e50 a_1).size + (e51 a_1).size) 4611686018427387904 then
                           bif Nat.ble ((e49 a_1).size + ((e50 a_1) ++ (e51 a_1)).size) 4611686018427387904 then
                            bif Nat.ble (((e49 a_1) ++ ((e50 a_1) ++ (e51 a_1))).size + (⟨#[58]⟩ : ByteArray).size) 4611686018427387904 then
                             bif inb (IntKind.u8.wrap ((IntKind.u8.wrap ((IntKind.u8.wrap (shrI .u64 a_1 8)).tdiv 16)) + 1)) 17 then
                              bif (decide (0 ≤ IntKind.u8.wrap ((IntKind.u8.wrap (shrI .u64 a_1 8)).tdiv 16)) && decide (IntKind.u8.wrap ((IntKind.u8.wrap (shrI .u64 a_1 8)).tdiv 16) ≤ IntKind.u8.wrap ((IntKind.u8.wrap ((IntKind.u8.wrap (shrI .u64 a_1 8)).tdiv 16)) + 1))) then
                               bif inb (IntKind.u8.wrap (((IntKind.u8.wrap (shrI .u64 a_1 8)).tmod 16) + 1)) 17 then
                                bif (decide (0 ≤ (IntKind.u8.wrap (shrI .u64 a_1 8)).tmod 16) && decide ((IntKind.u8.wrap (shrI .u64 a_1 8)).tmod 16 ≤ IntKind.u8.wrap (((IntKind.u8.wrap (shrI .u64 a_1 8)).tmod 16) + 1))) then
                                 bif Nat.ble ((e52 a_1).size + (e53 a_1).size) 4611686018427387904 then
                                  bif Nat.ble ((((e49 a_1) ++ ((e50 a_1) ++ (e51 a_1))) ++ (⟨#[58]⟩ : ByteArray)).size + ((e52 a_1) ++ (e53 a_1)).size) 4611686018427387904 then
                                   bif Nat.ble ((e54 a_1).size + (⟨#[58]⟩ : ByteArray).size) 4611686018427387904 then
                                    bif inb (IntKind.u8.wrap ((IntKind.u8.wrap ((IntKind.u8.wrap a_1).tdiv 16)) + 1)) 17 then
                                     bif (decide (0 ≤ IntKind.u8.wrap ((IntKind.u8.wrap a_1).tdiv 16)) && decide (IntKind.u8.wrap ((IntKind.u8.wrap a_1).tdiv 16) ≤ IntKind.u8.wrap ((IntKind.u8.wrap ((IntKind.u8.wrap a_1).tdiv 16)) + 1))) then
                                      bif inb (IntKind.u8.wrap (((IntKind.u8.wrap a_1).tmod 16) + 1)) 17 then
                                       bif (decide (0 ≤ (IntKind.u8.wrap a_1).tmod 16) && decide ((IntKind.u8.wrap a_1).tmod 16 ≤ IntKind.u8.wrap (((IntKind.u8.wrap a_1).tmod 16) + 1))) then
                                        bif Nat.ble ((e55 a_1).size + (e56 a_1).size) 4611686018427387904 then
                                         bif Nat.ble (((e54 a_1) ++ (⟨#[58]⟩ : ByteArray)).size + ((e55 a_1) ++ (e56 a_1)).size) 4611686018427387904 then
                                          k0 (((e54 a_1) ++ (⟨#[58]⟩ : ByteArray)) ++ ((e55 a_1) ++ (e56 a_1)))
                                         else none /- test -/
                                        else none /- test -/
                                       else none /- test -/
                                      else none /- test -/
                                     else none /- test -/
                                    else none /- test -/
                                   else none /- test -/
                                  else none /- test -/
                                 else none /- test -/
                                else none /- test -/
                               else none /- test -/
                              else none /- test -/
                             else none /- test -/
                            else none /- test -/
                           else none /- test -/
                          else none /- test -/
                         else none /- test -/
                        else none /- test -/
                       else none /- test -/
                      else none /- test -/
                     else none /- test -/
                    else none /- test -/
                   else none /- test -/
                  else none /- test -/
                 else none /- test -/
                else none /- test -/
               else none /- test -/
              else none /- test -/
             else none /- test -/
            else none /- test -/
           else none /- test -/
          else none /- test -/
         else none /- test -/
        else none /- test -/
       else none /- test -/
      else none /- test -/
     else none /- test -/
    else none /- test -/
   else none /- test -/
  else none /- test -/
 else none /- test -/
def ref09_Text {α : Type} (a_1 : Int) (k0 : ByteArray → Option α) : Option α := ref09_Text_T  a_1 k0
def ref09_Text_S  : List (Nat × Sm) := [(22, yes), (34, itoaSm), (13, numSm), (94, idxSm), (33, joinSm), (52, splitSm)]
def ref09_Text_B  : Hooks := []
theorem ref09_Text_eq  (a_1 : Int) (k : FK) : runS tt (has eql) Tryd.prog.funcs 18446744073709551616 (ref09_Text_S ) (ref09_Text_B ) opts 40 42 [.v (.c (.pv (.val (.int .u64 a_1))))] [] k = ref09_Text_T  a_1 (fun r0 => k (.v (.c (.pv (.val (.string r0))))) []) := by kernel_rfl
def ref09_Text_p : PAr := ⟨[.v (.c (.pv (.int .u64 .h)))], []⟩
def ref09_Text_F (h : List Hole) (k : FK) : Option Out := ref09_Text (gI h 0) (fun r0 => k (.v (.c (.pv (.val (.string r0))))) [])
theorem ref09_Text_at (h : List Hole) : CallAt Tryd.prog 42 (arFill ref09_Text_p h).1 (arFill ref09_Text_p h).2 (ref09_Text_F h) := by
  have e : arFill ref09_Text_p h = ([.v (.c (.pv (.val (.int .u64 (gI h 0)))))], []) := by kernel_rfl
  rw [e]; exact callAt_of (runS_ok ttOk eqOk mixed (names_ok namesOk) (S := ref09_Text_S ) (sums_cons yes22_ok (sums_cons itoa_ok (sums_cons num_ok (sums_cons idx_ok (sums_cons join_ok (sums_cons split_ok (sums_nil))))))) (B := ref09_Text_B ) (hooks_nil) opts 40) fun k => ref09_Text_eq  _ k
def e57 (x0 : Nat → Nat → PV) : Nat → Nat → PV := rowOf 1 [.val (.string (⟨#[]⟩ : ByteArray)), .val (.string (textOf ((fnOf (x0 0 0)) 0 0)))]
/- weirgate/weirgateref22.Text: loop 3 -/
def ref22_Text_L3_S (Gref21_Text : Y34 Out) (Gref21_Join_L0 : Y27 Out) (Gref09_Text : Y34 Out) : List (Nat × Sm) := [(22, yes), (34, itoaSm), (13, numSm), (94, idxSm), (33, joinSm), (52, splitSm), (21, smOf [(ref21_Text_p, fun h k => Gref21_Text (gI h 0) (fun r0 => k (.v (.c (.pv (.val (.string r0))))) []))]), (42, smOf [(ref09_Text_p, fun h k => Gref09_Text (gI h 0) (fun r0 => k (.v (.c (.pv (.val (.string r0))))) []))])]
def ref22_Text_L3_B (Gref21_Text : Y34 Out) (Gref21_Join_L0 : Y27 Out) (Gref09_Text : Y34 Out) : Hooks := [(19, [(0, hookG [0, 3, 4] [] (bkOf [(ref21_Join_L0_p, fun h k => Gref21_Join_L0 (gB h 0) (gN h 1) (gF h 2) (fun r0 => k .normal (ref21_Join_L0_x0 r0)))]))])]
noncomputable def ref22_Text_L3_C (Gref21_Text : Y34 Out) (Gref21_Join_L0 : Y27 Out) (Gref09_Text : Y34 Out) : Ctx := { tt := tt, eqs := has eql, call := runS tt (has eql) Tryd.prog.funcs 18446744073709551616 (ref22_Text_L3_S Gref21_Text Gref21_Join_L0 Gref09_Text) (ref22_Text_L3_B Gref21_Text Gref21_Join_L0 Gref09_Text) opts 40, fuel := 18446744073709551616, blk := fun i => aget [] i, bor := opts.bor }
def ref22_Text_L3_lo : Vx → List Nat := fun | .normal => [1, 4, 5, 8] | .exit j => bif Nat.beq j 1 then [1, 4, 5] else bif Nat.beq j 0 then [] else [] | .ret => [2, 3]
def ref22_Text_L3_h0 (a_1 : ByteArray) (a_2 a_3 a_4 a_5 a_6 a_7 a_8 a_9 a_10 a_11 : Int) (a_12 a_13 : Nat → Nat → PV) (a_14 a_15 a_16 a_17 a_18 a_19 a_20 : Int) : St := { n := 116, m := 0, t := [(1, .v (.c (.ptr 0 0))), (4, .v (.c (.own 1))), (5, .v (.c (.pv (.val (.int .i64 0))))), (6, .v (.c (.own 2))), (7, .v (.c (.ptr 3 0))), (8, .v (.c (.pv (.val (.string a_1))))), (9, .v (.c (.pv (.val (.int .i64 a_2))))), (10, .v (.c (.pv (.val (.int .i64 a_3)))))], h := [(0, .cells false [.pv (.val (.int .i64 a_4)), .pv (.val (.int .i64 a_5)), .pv (.val (.int .i64 a_6)), .pv (.val (.int .i64 a_7)), .pv (.val (.int .i64 a_8)), .pv (.val (.int .u8 a_9)), .pv (.val (.int .u8 a_10)), .pv (.val (.int .u64 a_11))]), (1, .parr false false (.sl (.str .nil) 1 .nil) 1 16 (a_12)), (2, .parr false false (.int .i64 .nil) 1 1 (a_13)), (3, .cells false [.pv (.val (.int .i64 a_14)), .pv (.val (.int .i64 a_15)), .pv (.val (.int .i64 a_16)), .pv (.val (.int .i64 a_17)), .pv (.val (.int .u8 a_18)), .pv (.val (.int .u8 a_19)), .pv (.val (.int .u64 a_20))])], nx := 4 }
def ref22_Text_L3_x0 (r0 : ByteArray) (r1 r2 r3 r4 r5 r6 r7 r8 : Int) (r9 : Nat → Nat → PV) : St := { n := 116, m := 0, t := [(1, .v (.c (.ptr 0 0))), (4, .v (.c (.own 1))), (5, .v (.c (.pv (.val (.int .i64 0))))), (8, .v (.c (.pv (.val (.string r0)))))], h := [(0, .cells false [.pv (.val (.int .i64 r1)), .pv (.val (.int .i64 r2)), .pv (.val (.int .i64 r3)), .pv (.val (.int .i64 r4)), .pv (.val (.int .i64 r5)), .pv (.val (.int .u8 r6)), .pv (.val (.int .u8 r7)), .pv (.val (.int .u64 r8))]), (1, .parr false false (.sl (.str .nil) 1 .nil) 1 16 (r9))], nx := 2 }
def ref22_Text_L3_s0 {α : Type} (Gref21_Text : Y34 α) (Gref21_Join_L0 : Y27 α) (Gref09_Text : Y34 α) (rec0 : ByteArray → Int → Int → Int → Int → Int → Int → Int → Int → Int → Int → (Nat → Nat → PV) → (Nat → Nat → PV) → Int → Int → Int → Int → Int → Int → Int → Option α) (k0 : Y20 α) (a_1 : ByteArray) (a_2 a_3 a_4 a_5 a_6 a_7 a_8 a_9 a_10 a_11 : Int) (a_12 a_13 : Nat → Nat → PV) (a_14 a_15 a_16 a_17 a_18 a_19 a_20 : Int) : Option α := bif decide (a_3 < ((lenOf (a_12 0 0) : Nat) : Int)) then
  bif inb a_3 (lenOf (a_12 0 0)) then
   bif ((textOf ((fnOf (a_12 0 0)) a_3.toNat 0)).toList == (⟨#[35]⟩ : ByteArray).toList) then
    bif inb a_2 1 then
     Gref21_Text (numOf (a_13 a_2.toNat 0))
      (fun r_21 => Gref21_Join_L0 false 2 (rowOf 1 [.val (.string a_1), .val (.string r_21)])
       (fun r_22 => rec0 r_22 (IntKind.i64.wrap (a_2 + 1)) (IntKind.i64.wrap (a_3 + 1)) a_4 a_5 a_6 a_7 a_8 a_9 a_10 a_11 a_12 a_13 a_14 a_15 a_16 a_17 a_18 a_19 a_20))
    else none /- test -/
   else bif ((textOf ((fnOf (a_12 0 0)) a_3.toNat 0)).toList == (⟨#[64]⟩ : ByteArray).toList) then
    Gref09_Text a_20
     (fun r_21 => Gref21_Join_L0 false 2 (rowOf 1 [.val (.string a_1), .val (.string r_21)])
      (fun r_22 => rec0 r_22 a_2 (IntKind.i64.wrap (a_3 + 1)) a_4 a_5 a_6 a_7 a_8 a_9 a_10 a_11 a_12 a_13 a_14 a_15 a_16 a_17 a_18 a_19 a_20))
   else Gref21_Join_L0 false 2 (rowOf 1 [.val (.string a_1), .val (.string (textOf ((fnOf (a_12 0 0)) a_3.toNat 0)))])
    (fun r_21 => rec0 r_21 a_2 (IntKind.i64.wrap (a_3 + 1)) a_4 a_5 a_6 a_7 a_8 a_9 a_10 a_11 a_12 a_13 a_14 a_15 a_16 a_17 a_18 a_19 a_20)
  else none /- test -/
 else k0 a_1 a_4 a_5 a_6 a_7 a_8 a_9 a_10 a_11 a_12
def ref22_Text_L3_l0 {α : Type} (k0 : Y20 α) : Nat → ByteArray → Int → Int → Int → Int → Int → Int → Int → Int → Int → Int → (Nat → Nat → PV) → (Nat → Nat → PV) → Int → Int → Int → Int → Int → Int → Int → Option α
  | 0 => fun _ _ _ _ _ _ _ _ _ _ _ _ _ _ _ _ _ _ _ _ => none
  | n + 1 => ref22_Text_L3_s0 ref21_Text ref21_Join_L0 ref09_Text (ref22_Text_L3_l0 k0 n) k0
theorem ref22_Text_L3_s0_eq (Gref21_Text : Y34 Out) (Gref21_Join_L0 : Y27 Out) (Gref09_Text : Y34 Out) (k : Kont) (n : Nat) (a_1 : ByteArray) (a_2 a_3 a_4 a_5 a_6 a_7 a_8 a_9 a_10 a_11 : Int) (a_12 a_13 : Nat → Nat → PV) (a_14 a_15 a_16 a_17 a_18 a_19 a_20 : Int) : loopN (fun st k => exec (ref22_Text_L3_C Gref21_Text Gref21_Join_L0 Gref09_Text) (loopBody (codeAt Tryd.f27 3)) st k) [1, 4, 5, 6, 7, 8, 9, 10] (loopK 3 (kn ref22_Text_L3_lo k)) (n + 1) (ref22_Text_L3_h0 a_1 a_2 a_3 a_4 a_5 a_6 a_7 a_8 a_9 a_10 a_11 a_12 a_13 a_14 a_15 a_16 a_17 a_18 a_19 a_20) = ref22_Text_L3_s0 Gref21_Text Gref21_Join_L0 Gref09_Text (fun a_1 a_2 a_3 a_4 a_5 a_6 a_7 a_8 a_9 a_10 a_11 a_12 a_13 a_14 a_15 a_16 a_17 a_18 a_19 a_20 => loopN (fun st k => exec (ref22_Text_L3_C Gref21_Text Gref21_Join_L0 Gref09_Text) (loopBody (codeAt Tryd.f27 3)) st k) [1, 4, 5, 6, 7, 8, 9, 10] (loopK 3 (kn ref22_Text_L3_lo k)) n (ref22_Text_L3_h0 a_1 a_2 a_3 a_4 a_5 a_6 a_7 a_8 a_9 a_10 a_11 a_12 a_13 a_14 a_15 a_16 a_17 a_18 a_19 a_20)) (fun r0 r1 r2 r3 r4 r5 r6 r7 r8 r9 => k .normal (ref22_Text_L3_x0 r0 r1 r2 r3 r4 r5 r6 r7 r8 r9)) a_1 a_2 a_3 a_4 a_5 a_6 a_7 a_8 a_9 a_10 a_11 a_12 a_13 a_14 a_15 a_16 a_17 a_18 a_19 a_20 := by kernel_rfl
theorem ref22_Text_L3_l0_eq (k : Kont) : ∀ (n : Nat) (a_1 : ByteArray) (a_2 a_3 a_4 a_5 a_6 a_7 a_8 a_9 a_10 a_11 : Int) (a_12 a_13 : Nat → Nat → PV) (a_14 a_15 a_16 a_17 a_18 a_19 a_20 : Int), loopN (fun st k => exec (ref22_Text_L3_C ref21_Text ref21_Join_L0 ref09_Text) (loopBody (codeAt Tryd.f27 3)) st k) [1, 4, 5, 6, 7, 8, 9, 10] (loopK 3 (kn ref22_Text_L3_lo k)) n (ref22_Text_L3_h0 a_1 a_2 a_3 a_4 a_5 a_6 a_7 a_8 a_9 a_10 a_11 a_12 a_13 a_14 a_15 a_16 a_17 a_18 a_19 a_20) = ref22_Text_L3_l0 (fun r0 r1 r2 r3 r4 r5 r6 r7 r8 r9 => k .normal (ref22_Text_L3_x0 r0 r1 r2 r3 r4 r5 r6 r7 r8 r9)) n a_1 a_2 a_3 a_4 a_5 a_6 a_7 a_8 a_9 a_10 a_11 a_12 a_13 a_14 a_15 a_16 a_17 a_18 a_19 a_20
  | 0, _, _, _, _, _, _, _, _, _, _, _, _, _, _, _, _, _, _, _, _ => rfl
  | n + 1, a_1, a_2, a_3, a_4, a_5, a_6, a_7, a_8, a_9, a_10, a_11, a_12, a_13, a_14, a_15, a_16, a_17, a_18, a_19, a_20 => by
    have r0 : (fun a_1 a_2 a_3 a_4 a_5 a_6 a_7 a_8 a_9 a_10 a_11 a_12 a_13 a_14 a_15 a_16 a_17 a_18 a_19 a_20 => loopN (fun st k => exec (ref22_Text_L3_C ref21_Text ref21_Join_L0 ref09_Text) (loopBody (codeAt Tryd.f27 3)) st k) [1, 4, 5, 6, 7, 8, 9, 10] (loopK 3 (kn ref22_Text_L3_lo k)) n (ref22_Text_L3_h0 a_1 a_2 a_3 a_4 a_5 a_6 a_7 a_8 a_9 a_10 a_11 a_12 a_13 a_14 a_15 a_16 a_17 a_18 a_19 a_20)) = ref22_Text_L3_l0 (fun r0 r1 r2 r3 r4 r5 r6 r7 r8 r9 => k .normal (ref22_Text_L3_x0 r0 r1 r2 r3 r4 r5 r6 r7 r8 r9)) n := funext fun a_1 => funext fun a_2 => funext fun a_3 => funext fun a_4 => funext fun a_5 => funext fun a_6 => funext fun a_7 => funext fun a_8 => funext fun a_9 => funext fun a_10 => funext fun a_11 => funext fun a_12 => funext fun a_13 => funext fun a_14 => funext fun a_15 => funext fun a_16 => funext fun a_17 => funext fun a_18 => funext fun a_19 => funext fun a_20 => ref22_Text_L3_l0_eq k n a_1 a_2 a_3 a_4 a_5 a_6 a_7 a_8 a_9 a_10 a_11 a_12 a_13 a_14 a_15 a_16 a_17 a_18 a_19 a_20
    exact (ref22_Text_L3_s0_eq ref21_Text ref21_Join_L0 ref09_Text k n a_1 a_2 a_3 a_4 a_5 a_6 a_7 a_8 a_9 a_10 a_11 a_12 a_13 a_14 a_15 a_16 a_17 a_18 a_19 a_20).trans (by rw [r0]; rfl)
def ref22_Text_L3 {α : Type} (a_1 a_2 a_3 a_4 a_5 a_6 a_7 a_8 : Int) (a_9 a_10 : Nat → Nat → PV) (a_11 a_12 a_13 a_14 a_15 a_16 a_17 : Int) (k0 : Y20 α) : Option α := ref22_Text_L3_l0 k0 18446744073709551616 (⟨#[]⟩ : ByteArray) 0 0 a_1 a_2 a_3 a_4 a_5 a_6 a_7 a_8 a_9 a_10 a_11 a_12 a_13 a_14 a_15 a_16 a_17
def ref22_Text_L3_e (a_1 a_2 a_3 a_4 a_5 a_6 a_7 a_8 : Int) (a_9 a_10 : Nat → Nat → PV) (a_11 a_12 a_13 a_14 a_15 a_16 a_17 : Int) : St := { n := 116, m := 0, t := [(1, .v (.c (.ptr 0 0))), (4, .v (.c (.own 1))), (5, .v (.c (.pv (.val (.int .i64 0))))), (6, .v (.c (.own 2))), (7, .v (.c (.ptr 3 0))), (8, .v (.c (.pv (.val (.string (⟨#[]⟩ : ByteArray)))))), (9, .v (.c (.pv (.val (.int .i64 0))))), (10, .v (.c (.pv (.val (.int .i64 0)))))], h := [(0, .cells false [.pv (.val (.int .i64 a_1)), .pv (.val (.int .i64 a_2)), .pv (.val (.int .i64 a_3)), .pv (.val (.int .i64 a_4)), .pv (.val (.int .i64 a_5)), .pv (.val (.int .u8 a_6)), .pv (.val (.int .u8 a_7)), .pv (.val (.int .u64 a_8))]), (1, .parr false false (.sl (.str .nil) 1 .nil) 1 16 (a_9)), (2, .parr false false (.int .i64 .nil) 1 1 (a_10)), (3, .cells false [.pv (.val (.int .i64 a_11)), .pv (.val (.int .i64 a_12)), .pv (.val (.int .i64 a_13)), .pv (.val (.int .i64 a_14)), .pv (.val (.int .u8 a_15)), .pv (.val (.int .u8 a_16)), .pv (.val (.int .u64 a_17))])], nx := 4 }
theorem ref22_Text_L3_eq (a_1 a_2 a_3 a_4 a_5 a_6 a_7 a_8 : Int) (a_9 a_10 : Nat → Nat → PV) (a_11 a_12 a_13 a_14 a_15 a_16 a_17 : Int) (k : Kont) : exec (ref22_Text_L3_C ref21_Text ref21_Join_L0 ref09_Text) (codeAt Tryd.f27 3) (ref22_Text_L3_e a_1 a_2 a_3 a_4 a_5 a_6 a_7 a_8 a_9 a_10 a_11 a_12 a_13 a_14 a_15 a_16 a_17) (kn ref22_Text_L3_lo k) = ref22_Text_L3 a_1 a_2 a_3 a_4 a_5 a_6 a_7 a_8 a_9 a_10 a_11 a_12 a_13 a_14 a_15 a_16 a_17 (fun r0 r1 r2 r3 r4 r5 r6 r7 r8 r9 => k .normal (ref22_Text_L3_x0 r0 r1 r2 r3 r4 r5 r6 r7 r8 r9)) :=
  (by kernel_rfl : _ = loopN (fun st k => exec (ref22_Text_L3_C ref21_Text ref21_Join_L0 ref09_Text) (loopBody (codeAt Tryd.f27 3)) st k) [1, 4, 5, 6, 7, 8, 9, 10] (loopK 3 (kn ref22_Text_L3_lo k)) 18446744073709551616 (ref22_Text_L3_h0 (⟨#[]⟩ : ByteArray) 0 0 a_1 a_2 a_3 a_4 a_5 a_6 a_7 a_8 a_9 a_10 a_11 a_12 a_13 a_14 a_15 a_16 a_17)).trans (ref22_Text_L3_l0_eq k 18446744073709551616 (⟨#[]⟩ : ByteArray) 0 0 a_1 a_2 a_3 a_4 a_5 a_6 a_7 a_8 a_9 a_10 a_11 a_12 a_13 a_14 a_15 a_16 a_17)
def ref22_Text_L3_p : PSt := { n := 116, m := 0, t := [(1, .v (.c (.ptr 0 0))), (4, .v (.c (.own 1))), (5, .v (.c (.pv (.int .i64 (.l 0))))), (6, .v (.c (.own 2))), (7, .v (.c (.ptr 3 0))), (8, .v (.c (.pv (.strl [])))), (9, .v (.c (.pv (.int .i64 (.l 0))))), (10, .v (.c (.pv (.int .i64 (.l 0)))))], h := [(0, .cells (.l false) [.pv (.int .i64 .h), .pv (.int .i64 .h), .pv (.int .i64 .h), .pv (.int .i64 .h), .pv (.int .i64 .h), .pv (.int .u8 .h), .pv (.int .u8 .h), .pv (.int .u64 .h)]), (1, .parr (.l false) (.l false) (.sl (.str .nil) 1 .nil) 1 (.l 16)), (2, .parr (.l false) (.l false) (.int .i64 .nil) 1 (.l 1)), (3, .cells (.l false) [.pv (.int .i64 .h), .pv (.int .i64 .h), .pv (.int .i64 .h), .pv (.int .i64 .h), .pv (.int .u8 .h), .pv (.int .u8 .h), .pv (.int .u64 .h)])], nx := 4 }
def ref22_Text_L3_F (h : List Hole) (k : Kont) : Option Out := ref22_Text_L3 (gI h 0) (gI h 1) (gI h 2) (gI h 3) (gI h 4) (gI h 5) (gI h 6) (gI h 7) (gF h 8) (gF h 9) (gI h 10) (gI h 11) (gI h 12) (gI h 13) (gI h 14) (gI h 15) (gI h 16) (fun r0 r1 r2 r3 r4 r5 r6 r7 r8 r9 => k .normal (ref22_Text_L3_x0 r0 r1 r2 r3 r4 r5 r6 r7 r8 r9))
theorem ref22_Text_L3_at (h : List Hole) : BodyAt Tryd.prog (codeAt Tryd.f27 3) (stFill ref22_Text_L3_p h) (ref22_Text_L3_F h) := by
  have e : stFill ref22_Text_L3_p h = ref22_Text_L3_e (gI h 0) (gI h 1) (gI h 2) (gI h 3) (gI h 4) (gI h 5) (gI h 6) (gI h 7) (gF h 8) (gF h 9) (gI h 10) (gI h 11) (gI h 12) (gI h 13) (gI h 14) (gI h 15) (gI h 16) := by kernel_rfl
  rw [e]; exact bodyAt_of (C := ref22_Text_L3_C ref21_Text ref21_Join_L0 ref09_Text) ⟨ttOk, eqOk, runS_ok ttOk eqOk mixed (names_ok namesOk) (S := ref22_Text_L3_S ref21_Text ref21_Join_L0 ref09_Text) (sums_cons yes22_ok (sums_cons itoa_ok (sums_cons num_ok (sums_cons idx_ok (sums_cons join_ok (sums_cons split_ok (sums_cons (smOf_ok (alts_cons ref21_Text_at alts_nil)) (sums_cons (smOf_ok (alts_cons ref09_Text_at alts_nil)) (sums_nil))))))))) (B := ref22_Text_L3_B ref21_Text ref21_Join_L0 ref09_Text) (hooks_add (fn := Tryd.f19) (by kernel_rfl) (by kernel_rfl) (blk_cons (bkOf_ok (blts_cons ref21_Join_L0_at blts_nil)) blk_nil) (hooks_nil)) opts 40⟩ mixed (hooked_in (by kernel_rfl) blk_nil 3) fun k => ref22_Text_L3_eq _ _ _ _ _ _ _ _ _ _ _ _ _ _ _ _ _ k
def e58 (x0 : Nat → Nat → PV) (x1 : ByteArray) (x2 x3 : Int) : Nat → Nat → PV := catf 0 (x0) (rowOf 1 [.val (.string (x1.extract x2.toNat (x2.toNat + (x3.toNat - x2.toNat))))])
def e59 (x0 : Nat) (x1 : Nat → Nat → PV) (x2 : ByteArray) (x3 x4 : Int) : Nat → Nat → PV := catf x0 (x1) (rowOf 1 [.val (.string (x2.extract x3.toNat (x3.toNat + (x4.toNat - x3.toNat))))])
/- weirgate/weirgateref21.Cut: loop 0 -/
def ref21_Cut_L0_S  : List (Nat × Sm) := [(22, yes), (34, itoaSm), (13, numSm), (94, idxSm), (33, joinSm), (52, splitSm)]
def ref21_Cut_L0_B  : Hooks := []
noncomputable def ref21_Cut_L0_C  : Ctx := { tt := tt, eqs := has eql, call := runS tt (has eql) Tryd.prog.funcs 18446744073709551616 (ref21_Cut_L0_S ) (ref21_Cut_L0_B ) opts 40, fuel := 18446744073709551616, blk := fun i => aget [] i, bor := opts.bor }
def ref21_Cut_L0_lo : Vx → List Nat := fun | .normal => [3] | .exit j => (fun _ => []) j | .ret => [2]
def ref21_Cut_L0_h0 (a_1 : ByteArray) (a_2 a_3 : Int) (a_4 : Bool) (a_5 : Nat) (a_6 : Nat → Nat → PV) : St := { n := 35, m := 0, t := [(0, .v (.c (.pv (.val (.string a_1))))), (3, .v (.c (.own 0))), (4, .v (.c (.pv (.val (.int .i64 a_2))))), (5, .v (.c (.pv (.val (.int .i64 a_3)))))], h := [(0, .parr false a_4 (.str .nil) 1 a_5 (a_6))], nx := 1 }
def ref21_Cut_L0_x0 (r0 : Bool) (r1 : Nat) (r2 : Nat → Nat → PV) : St := { n := 35, m := 0, t := [(3, .v (.c (.own 0)))], h := [(0, .parr false r0 (.str .nil) 1 r1 (r2))], nx := 1 }
def ref21_Cut_L0_s0 {α : Type}  (rec0 : ByteArray → Int → Int → Bool → Nat → (Nat → Nat → PV) → Option α) (k0 : Y35 α) (a_1 : ByteArray) (a_2 a_3 : Int) (a_4 : Bool) (a_5 : Nat) (a_6 : Nat → Nat → PV) : Option α := bif decide (a_3 ≤ (a_1.size : Int)) then
  bif (a_3 == (a_1.size : Int)) then
   bif decide (a_3 > a_2) then
    bif inb a_3 (a_1.size + 1) then
     bif (decide (0 ≤ a_2) && decide (a_2 ≤ a_3)) then
      bif Nat.ble ((a_5 + 1) * 16) bound then
       rec0 a_1 (IntKind.i64.wrap (a_3 + 1)) (IntKind.i64.wrap (a_3 + 1)) (a_4 && false) (a_5 + 1) (e59 a_5 a_6 a_1 a_2 a_3)
      else none /- test -/
     else none /- test -/
    else none /- test -/
   else rec0 a_1 (IntKind.i64.wrap (a_3 + 1)) (IntKind.i64.wrap (a_3 + 1)) a_4 a_5 a_6
  else bif inb a_3 a_1.size then
   bif ((bt a_1 a_3) == 32) then
    bif decide (a_3 > a_2) then
     bif inb a_3 (a_1.size + 1) then
      bif (decide (0 ≤ a_2) && decide (a_2 ≤ a_3)) then
       bif Nat.ble ((a_5 + 1) * 16) bound then
        rec0 a_1 (IntKind.i64.wrap (a_3 + 1)) (IntKind.i64.wrap (a_3 + 1)) (a_4 && false) (a_5 + 1) (e59 a_5 a_6 a_1 a_2 a_3)
       else none /- test -/
      else none /- test -/
     else none /- test -/
    else rec0 a_1 (IntKind.i64.wrap (a_3 + 1)) (IntKind.i64.wrap (a_3 + 1)) a_4 a_5 a_6
   else rec0 a_1 a_2 (IntKind.i64.wrap (a_3 + 1)) a_4 a_5 a_6
  else none /- test -/
 else k0 a_4 a_5 a_6
def ref21_Cut_L0_l0 {α : Type} (k0 : Y35 α) : Nat → ByteArray → Int → Int → Bool → Nat → (Nat → Nat → PV) → Option α
  | 0 => fun _ _ _ _ _ _ => none
  | n + 1 => ref21_Cut_L0_s0  (ref21_Cut_L0_l0 k0 n) k0
theorem ref21_Cut_L0_s0_eq  (k : Kont) (n : Nat) (a_1 : ByteArray) (a_2 a_3 : Int) (a_4 : Bool) (a_5 : Nat) (a_6 : Nat → Nat → PV) : loopN (fun st k => exec (ref21_Cut_L0_C ) (loopBody (codeAt Tryd.f17 0)) st k) [0, 3, 4, 5] (loopK 0 (kn ref21_Cut_L0_lo k)) (n + 1) (ref21_Cut_L0_h0 a_1 a_2 a_3 a_4 a_5 a_6) = ref21_Cut_L0_s0  (fun a_1 a_2 a_3 a_4 a_5 a_6 => loopN (fun st k => exec (ref21_Cut_L0_C ) (loopBody (codeAt Tryd.f17 0)) st k) [0, 3, 4, 5] (loopK 0 (kn ref21_Cut_L0_lo k)) n (ref21_Cut_L0_h0 a_1 a_2 a_3 a_4 a_5 a_6)) (fun r0 r1 r2 => k .normal (ref21_Cut_L0_x0 r0 r1 r2)) a_1 a_2 a_3 a_4 a_5 a_6 := by kernel_rfl
theorem ref21_Cut_L0_l0_eq (k : Kont) : ∀ (n : Nat) (a_1 : ByteArray) (a_2 a_3 : Int) (a_4 : Bool) (a_5 : Nat) (a_6 : Nat → Nat → PV), loopN (fun st k => exec (ref21_Cut_L0_C ) (loopBody (codeAt Tryd.f17 0)) st k) [0, 3, 4, 5] (loopK 0 (kn ref21_Cut_L0_lo k)) n (ref21_Cut_L0_h0 a_1 a_2 a_3 a_4 a_5 a_6) = ref21_Cut_L0_l0 (fun r0 r1 r2 => k .normal (ref21_Cut_L0_x0 r0 r1 r2)) n a_1 a_2 a_3 a_4 a_5 a_6
  | 0, _, _, _, _, _, _ => rfl
  | n + 1, a_1, a_2, a_3, a_4, a_5, a_6 => by
    have r0 : (fun a_1 a_2 a_3 a_4 a_5 a_6 => loopN (fun st k => exec (ref21_Cut_L0_C ) (loopBody (codeAt Tryd.f17 0)) st k) [0, 3, 4, 5] (loopK 0 (kn ref21_Cut_L0_lo k)) n (ref21_Cut_L0_h0 a_1 a_2 a_3 a_4 a_5 a_6)) = ref21_Cut_L0_l0 (fun r0 r1 r2 => k .normal (ref21_Cut_L0_x0 r0 r1 r2)) n := funext fun a_1 => funext fun a_2 => funext fun a_3 => funext fun a_4 => funext fun a_5 => funext fun a_6 => ref21_Cut_L0_l0_eq k n a_1 a_2 a_3 a_4 a_5 a_6
    exact (ref21_Cut_L0_s0_eq  k n a_1 a_2 a_3 a_4 a_5 a_6).trans (by rw [r0]; rfl)
def ref21_Cut_L0 {α : Type} (a_1 : ByteArray) (a_2 : Nat → Nat → PV) (k0 : Y35 α) : Option α := ref21_Cut_L0_l0 k0 18446744073709551616 a_1 0 0 true 0 a_2
def ref21_Cut_L0_e (a_1 : ByteArray) (a_2 : Nat → Nat → PV) : St := { n := 35, m := 0, t := [(0, .v (.c (.pv (.val (.string a_1))))), (3, .v (.c (.own 0))), (4, .v (.c (.pv (.val (.int .i64 0))))), (5, .v (.c (.pv (.val (.int .i64 0)))))], h := [(0, .parr false true (.str .nil) 1 0 (a_2))], nx := 1 }
theorem ref21_Cut_L0_eq (a_1 : ByteArray) (a_2 : Nat → Nat → PV) (k : Kont) : exec (ref21_Cut_L0_C ) (codeAt Tryd.f17 0) (ref21_Cut_L0_e a_1 a_2) (kn ref21_Cut_L0_lo k) = ref21_Cut_L0 a_1 a_2 (fun r0 r1 r2 => k .normal (ref21_Cut_L0_x0 r0 r1 r2)) :=
  (by kernel_rfl : _ = loopN (fun st k => exec (ref21_Cut_L0_C ) (loopBody (codeAt Tryd.f17 0)) st k) [0, 3, 4, 5] (loopK 0 (kn ref21_Cut_L0_lo k)) 18446744073709551616 (ref21_Cut_L0_h0 a_1 0 0 true 0 a_2)).trans (ref21_Cut_L0_l0_eq k 18446744073709551616 a_1 0 0 true 0 a_2)
def ref21_Cut_L0_p : PSt := { n := 35, m := 0, t := [(0, .v (.c (.pv (.str)))), (3, .v (.c (.own 0))), (4, .v (.c (.pv (.int .i64 (.l 0))))), (5, .v (.c (.pv (.int .i64 (.l 0)))))], h := [(0, .parr (.l false) (.l true) (.str .nil) 1 (.l 0))], nx := 1 }
def ref21_Cut_L0_F (h : List Hole) (k : Kont) : Option Out := ref21_Cut_L0 (gS h 0) (gF h 1) (fun r0 r1 r2 => k .normal (ref21_Cut_L0_x0 r0 r1 r2))
theorem ref21_Cut_L0_at (h : List Hole) : BodyAt Tryd.prog (codeAt Tryd.f17 0) (stFill ref21_Cut_L0_p h) (ref21_Cut_L0_F h) := by
  have e : stFill ref21_Cut_L0_p h = ref21_Cut_L0_e (gS h 0) (gF h 1) := by kernel_rfl
  rw [e]; exact bodyAt_of (C := ref21_Cut_L0_C ) ⟨ttOk, eqOk, runS_ok ttOk eqOk mixed (names_ok namesOk) (S := ref21_Cut_L0_S ) (sums_cons yes22_ok (sums_cons itoa_ok (sums_cons num_ok (sums_cons idx_ok (sums_cons join_ok (sums_cons split_ok (sums_nil))))))) (B := ref21_Cut_L0_B ) (hooks_nil) opts 40⟩ mixed (hooked_in (by kernel_rfl) blk_nil 0) fun k => ref21_Cut_L0_eq _ _ k
def e60 (x0 : Int) (x1 : ByteArray) (x2 : Int) : Int := IntKind.i64.wrap ((IntKind.i64.wrap (x0 * 10)) + (IntKind.i64.wrap (IntKind.u8.wrap ((bt x1 x2) - 48))))
/- weirgate/weirgateref21.Num: loop 0 -/
def ref21_Num_L0_S  : List (Nat × Sm) := [(22, yes), (34, itoaSm), (13, numSm), (94, idxSm), (33, joinSm), (52, splitSm)]
def ref21_Num_L0_B  : Hooks := []
noncomputable def ref21_Num_L0_C  : Ctx := { tt := tt, eqs := has eql, call := runS tt (has eql) Tryd.prog.funcs 18446744073709551616 (ref21_Num_L0_S ) (ref21_Num_L0_B ) opts 40, fuel := 18446744073709551616, blk := fun i => aget [] i, bor := opts.bor }
def ref21_Num_L0_lo : Vx → List Nat := fun | .normal => [0, 2, 3] | .exit j => (fun _ => []) j | .ret => [2]
def ref21_Num_L0_h0 (a_1 : ByteArray) (a_2 a_3 : Int) : St := { n := 49, m := 0, t := [(0, .v (.c (.pv (.val (.string a_1))))), (2, .v (.c (.ptr 0 0))), (3, .v (.c (.pv (.val (.int .i64 a_2))))), (4, .v (.c (.pv (.val (.int .i64 a_3)))))], h := [(0, .cells false [.pv (.val (.int .i64 0)), .pv (.val (.bool false))])], nx := 1 }
def ref21_Num_L0_x0  : St := { n := 49, m := 0, t := [(2, .v (.c (.ptr 0 0)))], h := [(0, .cells false [.pv (.val (.int .i64 0)), .pv (.val (.bool false))])], nx := 1 }
def ref21_Num_L0_x1 (r0 : ByteArray) (r1 : Int) : St := { n := 49, m := 0, t := [(0, .v (.c (.pv (.val (.string r0))))), (2, .v (.c (.ptr 0 0))), (3, .v (.c (.pv (.val (.int .i64 r1)))))], h := [(0, .cells false [.pv (.val (.int .i64 0)), .pv (.val (.bool false))])], nx := 1 }
def ref21_Num_L0_s0 {α : Type}  (rec0 : Y37 α) (k0 : Option α) (k1 : Y39 α) (a_1 : ByteArray) (a_2 a_3 : Int) : Option α := bif decide (a_3 < (a_1.size : Int)) then
  bif inb a_3 a_1.size then
   bif decide ((bt a_1 a_3) < 48) then
    k0
   else bif inb a_3 a_1.size then
    bif decide ((bt a_1 a_3) > 57) then
     k0
    else bif inb a_3 a_1.size then
     rec0 a_1 (e60 a_2 a_1 a_3) (IntKind.i64.wrap (a_3 + 1))
    else none /- test -/
   else none /- test -/
  else none /- test -/
 else k1 a_1 a_2
def ref21_Num_L0_l0 {α : Type} (k0 : Option α) (k1 : Y39 α) : Nat → ByteArray → Int → Int → Option α
  | 0 => fun _ _ _ => none
  | n + 1 => ref21_Num_L0_s0  (ref21_Num_L0_l0 k0 k1 n) k0 k1
theorem ref21_Num_L0_s0_eq  (k : Kont) (n : Nat) (a_1 : ByteArray) (a_2 a_3 : Int) : loopN (fun st k => exec (ref21_Num_L0_C ) (loopBody (codeAt Tryd.f14 0)) st k) [0, 2, 3, 4] (loopK 0 (kn ref21_Num_L0_lo k)) (n + 1) (ref21_Num_L0_h0 a_1 a_2 a_3) = ref21_Num_L0_s0  (fun a_1 a_2 a_3 => loopN (fun st k => exec (ref21_Num_L0_C ) (loopBody (codeAt Tryd.f14 0)) st k) [0, 2, 3, 4] (loopK 0 (kn ref21_Num_L0_lo k)) n (ref21_Num_L0_h0 a_1 a_2 a_3)) (k .ret (ref21_Num_L0_x0)) (fun r0 r1 => k .normal (ref21_Num_L0_x1 r0 r1)) a_1 a_2 a_3 := by kernel_rfl
theorem ref21_Num_L0_l0_eq (k : Kont) : ∀ (n : Nat) (a_1 : ByteArray) (a_2 a_3 : Int), loopN (fun st k => exec (ref21_Num_L0_C ) (loopBody (codeAt Tryd.f14 0)) st k) [0, 2, 3, 4] (loopK 0 (kn ref21_Num_L0_lo k)) n (ref21_Num_L0_h0 a_1 a_2 a_3) = ref21_Num_L0_l0 (k .ret (ref21_Num_L0_x0)) (fun r0 r1 => k .normal (ref21_Num_L0_x1 r0 r1)) n a_1 a_2 a_3
  | 0, _, _, _ => rfl
  | n + 1, a_1, a_2, a_3 => by
    have r0 : (fun a_1 a_2 a_3 => loopN (fun st k => exec (ref21_Num_L0_C ) (loopBody (codeAt Tryd.f14 0)) st k) [0, 2, 3, 4] (loopK 0 (kn ref21_Num_L0_lo k)) n (ref21_Num_L0_h0 a_1 a_2 a_3)) = ref21_Num_L0_l0 (k .ret (ref21_Num_L0_x0)) (fun r0 r1 => k .normal (ref21_Num_L0_x1 r0 r1)) n := funext fun a_1 => funext fun a_2 => funext fun a_3 => ref21_Num_L0_l0_eq k n a_1 a_2 a_3
    exact (ref21_Num_L0_s0_eq  k n a_1 a_2 a_3).trans (by rw [r0]; rfl)
def ref21_Num_L0 {α : Type} (a_1 : ByteArray) (k0 : Option α) (k1 : Y39 α) : Option α := ref21_Num_L0_l0 k0 k1 18446744073709551616 a_1 0 0
def ref21_Num_L0_e (a_1 : ByteArray) : St := { n := 49, m := 0, t := [(0, .v (.c (.pv (.val (.string a_1))))), (2, .v (.c (.ptr 0 0))), (3, .v (.c (.pv (.val (.int .i64 0))))), (4, .v (.c (.pv (.val (.int .i64 0)))))], h := [(0, .cells false [.pv (.val (.int .i64 0)), .pv (.val (.bool false))])], nx := 1 }
theorem ref21_Num_L0_eq (a_1 : ByteArray) (k : Kont) : exec (ref21_Num_L0_C ) (codeAt Tryd.f14 0) (ref21_Num_L0_e a_1) (kn ref21_Num_L0_lo k) = ref21_Num_L0 a_1 (k .ret (ref21_Num_L0_x0)) (fun r0 r1 => k .normal (ref21_Num_L0_x1 r0 r1)) :=
  (by kernel_rfl : _ = loopN (fun st k => exec (ref21_Num_L0_C ) (loopBody (codeAt Tryd.f14 0)) st k) [0, 2, 3, 4] (loopK 0 (kn ref21_Num_L0_lo k)) 18446744073709551616 (ref21_Num_L0_h0 a_1 0 0)).trans (ref21_Num_L0_l0_eq k 18446744073709551616 a_1 0 0)
def ref21_Num_L0_p : PSt := { n := 49, m := 0, t := [(0, .v (.c (.pv (.str)))), (2, .v (.c (.ptr 0 0))), (3, .v (.c (.pv (.int .i64 (.l 0))))), (4, .v (.c (.pv (.int .i64 (.l 0)))))], h := [(0, .cells (.l false) [.pv (.int .i64 (.l 0)), .pv (.bool (.l false))])], nx := 1 }
def ref21_Num_L0_F (h : List Hole) (k : Kont) : Option Out := ref21_Num_L0 (gS h 0) (k .ret (ref21_Num_L0_x0)) (fun r0 r1 => k .normal (ref21_Num_L0_x1 r0 r1))
theorem ref21_Num_L0_at (h : List Hole) : BodyAt Tryd.prog (codeAt Tryd.f14 0) (stFill ref21_Num_L0_p h) (ref21_Num_L0_F h) := by
  have e : stFill ref21_Num_L0_p h = ref21_Num_L0_e (gS h 0) := by kernel_rfl
  rw [e]; exact bodyAt_of (C := ref21_Num_L0_C ) ⟨ttOk, eqOk, runS_ok ttOk eqOk mixed (names_ok namesOk) (S := ref21_Num_L0_S ) (sums_cons yes22_ok (sums_cons itoa_ok (sums_cons num_ok (sums_cons idx_ok (sums_cons join_ok (sums_cons split_ok (sums_nil))))))) (B := ref21_Num_L0_B ) (hooks_nil) opts 40⟩ mixed (hooked_in (by kernel_rfl) blk_nil 0) fun k => ref21_Num_L0_eq _ k
/- weirgate/weirgateref21.Num -/
def ref21_Num_T {α : Type} (Gref21_Num_L0 : Y24 α) (Gref21_Text : Y34 α) (a_1 : ByteArray) (k0 : Option α) (k1 : Int → Option α) : Option α := bif (a_1.toList == (⟨#[]⟩ : ByteArray).toList) then
  k0
 else bif decide ((a_1.size : Int) > 10) then
  k0
 else Gref21_Num_L0 a_1
  (k0)
  (fun r_2 r_3 => bif decide (r_3 ≥ 4294967296) then
   k0
  else Gref21_Text r_3
   (fun r_4 => bif !(r_4.toList == r_2.toList) then
    k0
   else k1 r_3))
def ref21_Num {α : Type} (a_1 : ByteArray) (k0 : Option α) (k1 : Int → Option α) : Option α := ref21_Num_T ref21_Num_L0 ref21_Text a_1 k0 k1
def ref21_Num_S (Gref21_Num_L0 : Y24 Out) (Gref21_Text : Y34 Out) : List (Nat × Sm) := [(22, yes), (34, itoaSm), (13, numSm), (94, idxSm), (33, joinSm), (52, splitSm), (21, smOf [(ref21_Text_p, fun h k => Gref21_Text (gI h 0) (fun r0 => k (.v (.c (.pv (.val (.string r0))))) []))])]
def ref21_Num_B (Gref21_Num_L0 : Y24 Out) (Gref21_Text : Y34 Out) : Hooks := [(14, [(0, hookG [0, 2, 3, 4] [] (bkOf [(ref21_Num_L0_p, fun h k => Gref21_Num_L0 (gS h 0) (k .ret (ref21_Num_L0_x0)) (fun r0 r1 => k .normal (ref21_Num_L0_x1 r0 r1)))]))])]
theorem ref21_Num_eq (Gref21_Num_L0 : Y24 Out) (Gref21_Text : Y34 Out) (a_1 : ByteArray) (k : FK) : runS tt (has eql) Tryd.prog.funcs 18446744073709551616 (ref21_Num_S Gref21_Num_L0 Gref21_Text) (ref21_Num_B Gref21_Num_L0 Gref21_Text) opts 40 14 [.v (.c (.pv (.val (.string a_1))))] [] k = ref21_Num_T Gref21_Num_L0 Gref21_Text a_1 (k (.v (.agg [.pv (.val (.int .i64 0)), .pv (.val (.bool false))])) []) (fun r0 => k (.v (.agg [.pv (.val (.int .i64 r0)), .pv (.val (.bool true))])) []) := by kernel_rfl
def ref21_Num_p : PAr := ⟨[.v (.c (.pv (.str)))], []⟩
def ref21_Num_F (h : List Hole) (k : FK) : Option Out := ref21_Num (gS h 0) (k (.v (.agg [.pv (.val (.int .i64 0)), .pv (.val (.bool false))])) []) (fun r0 => k (.v (.agg [.pv (.val (.int .i64 r0)), .pv (.val (.bool true))])) [])
theorem ref21_Num_at (h : List Hole) : CallAt Tryd.prog 14 (arFill ref21_Num_p h).1 (arFill ref21_Num_p h).2 (ref21_Num_F h) := by
  have e : arFill ref21_Num_p h = ([.v (.c (.pv (.val (.string (gS h 0)))))], []) := by kernel_rfl
  rw [e]; exact callAt_of (runS_ok ttOk eqOk mixed (names_ok namesOk) (S := ref21_Num_S ref21_Num_L0 ref21_Text) (sums_cons yes22_ok (sums_cons itoa_ok (sums_cons num_ok (sums_cons idx_ok (sums_cons join_ok (sums_cons split_ok (sums_cons (smOf_ok (alts_cons ref21_Text_at alts_nil)) (sums_nil)))))))) (B := ref21_Num_B ref21_Num_L0 ref21_Text) (hooks_add (fn := Tryd.f14) (by kernel_rfl) (by kernel_rfl) (blk_cons (bkOf_ok (blts_cons ref21_Num_L0_at blts_nil)) blk_nil) (hooks_nil)) opts 40) fun k => ref21_Num_eq ref21_Num_L0 ref21_Text _ k
def e61 (x0 : Int) : Int := bt (⟨#[48, 49, 50, 51, 52, 53, 54, 55, 56, 57, 97, 98, 99, 100, 101, 102]⟩ : ByteArray) x0
/- weirgate/weirgateref09.Parse: loop 2 -/
def ref09_Parse_L2_S  : List (Nat × Sm) := [(22, yes), (34, itoaSm), (13, numSm), (94, idxSm), (33, joinSm), (52, splitSm)]
def ref09_Parse_L2_B  : Hooks := []
noncomputable def ref09_Parse_L2_C  : Ctx := { tt := tt, eqs := has eql, call := runS tt (has eql) Tryd.prog.funcs 18446744073709551616 (ref09_Parse_L2_S ) (ref09_Parse_L2_B ) opts 40, fuel := 18446744073709551616, blk := fun i => aget [] i, bor := opts.bor }
def ref09_Parse_L2_lo : Vx → List Nat := fun | .normal => [0, 4, 5, 6] | .exit j => bif Nat.beq j 1 then [0, 4, 5] else bif Nat.beq j 0 then [0, 4] else [] | .ret => [2, 3]
def ref09_Parse_L2_h0 (a_1 : ByteArray) (a_2 a_3 : Int) : St := { n := 41, m := 0, t := [(0, .v (.c (.pv (.val (.string a_1))))), (4, .v (.c (.pv (.val (.int .u64 0))))), (5, .v (.c (.pv (.val (.int .i64 0))))), (6, .v (.c (.pv (.val (.int .i64 a_2))))), (7, .v (.c (.pv (.val (.int .i64 a_3)))))], h := [], nx := 0 }
def ref09_Parse_L2_x0 (r0 : ByteArray) (r1 : Int) : St := { n := 41, m := 0, t := [(0, .v (.c (.pv (.val (.string r0))))), (4, .v (.c (.pv (.val (.int .u64 0))))), (5, .v (.c (.pv (.val (.int .i64 0))))), (6, .v (.c (.pv (.val (.int .i64 r1)))))], h := [], nx := 0 }
def ref09_Parse_L2_s0 {α : Type}  (rec0 : Y37 α) (k0 : Y39 α) (a_1 : ByteArray) (a_2 a_3 : Int) : Option α := bif decide (a_3 < 16) then
  bif inb a_3 16 then
   bif inb 0 a_1.size then
    bif ((e61 a_3) == (bt a_1 0)) then
     rec0 a_1 a_3 (IntKind.i64.wrap (a_3 + 1))
    else rec0 a_1 a_2 (IntKind.i64.wrap (a_3 + 1))
   else none /- test -/
  else none /- test -/
 else k0 a_1 a_2
def ref09_Parse_L2_l0 {α : Type} (k0 : Y39 α) : Nat → ByteArray → Int → Int → Option α
  | 0 => fun _ _ _ => none
  | n + 1 => ref09_Parse_L2_s0  (ref09_Parse_L2_l0 k0 n) k0
theorem ref09_Parse_L2_s0_eq  (k : Kont) (n : Nat) (a_1 : ByteArray) (a_2 a_3 : Int) : loopN (fun st k => exec (ref09_Parse_L2_C ) (loopBody (codeAt Tryd.f38 2)) st k) [0, 4, 5, 6, 7] (loopK 2 (kn ref09_Parse_L2_lo k)) (n + 1) (ref09_Parse_L2_h0 a_1 a_2 a_3) = ref09_Parse_L2_s0  (fun a_1 a_2 a_3 => loopN (fun st k => exec (ref09_Parse_L2_C ) (loopBody (codeAt Tryd.f38 2)) st k) [0, 4, 5, 6, 7] (loopK 2 (kn ref09_Parse_L2_lo k)) n (ref09_Parse_L2_h0 a_1 a_2 a_3)) (fun r0 r1 => k .normal (ref09_Parse_L2_x0 r0 r1)) a_1 a_2 a_3 := by kernel_rfl
theorem ref09_Parse_L2_l0_eq (k : Kont) : ∀ (n : Nat) (a_1 : ByteArray) (a_2 a_3 : Int), loopN (fun st k => exec (ref09_Parse_L2_C ) (loopBody (codeAt Tryd.f38 2)) st k) [0, 4, 5, 6, 7] (loopK 2 (kn ref09_Parse_L2_lo k)) n (ref09_Parse_L2_h0 a_1 a_2 a_3) = ref09_Parse_L2_l0 (fun r0 r1 => k .normal (ref09_Parse_L2_x0 r0 r1)) n a_1 a_2 a_3
  | 0, _, _, _ => rfl
  | n + 1, a_1, a_2, a_3 => by
    have r0 : (fun a_1 a_2 a_3 => loopN (fun st k => exec (ref09_Parse_L2_C ) (loopBody (codeAt Tryd.f38 2)) st k) [0, 4, 5, 6, 7] (loopK 2 (kn ref09_Parse_L2_lo k)) n (ref09_Parse_L2_h0 a_1 a_2 a_3)) = ref09_Parse_L2_l0 (fun r0 r1 => k .normal (ref09_Parse_L2_x0 r0 r1)) n := funext fun a_1 => funext fun a_2 => funext fun a_3 => ref09_Parse_L2_l0_eq k n a_1 a_2 a_3
    exact (ref09_Parse_L2_s0_eq  k n a_1 a_2 a_3).trans (by rw [r0]; rfl)
def ref09_Parse_L2 {α : Type} (a_1 : ByteArray) (k0 : Y39 α) : Option α := ref09_Parse_L2_l0 k0 18446744073709551616 a_1 (-1) 0
def ref09_Parse_L2_e (a_1 : ByteArray) : St := { n := 41, m := 0, t := [(0, .v (.c (.pv (.val (.string a_1))))), (4, .v (.c (.pv (.val (.int .u64 0))))), (5, .v (.c (.pv (.val (.int .i64 0))))), (6, .v (.c (.pv (.val (.int .i64 (-1)))))), (7, .v (.c (.pv (.val (.int .i64 0)))))], h := [], nx := 0 }
theorem ref09_Parse_L2_eq (a_1 : ByteArray) (k : Kont) : exec (ref09_Parse_L2_C ) (codeAt Tryd.f38 2) (ref09_Parse_L2_e a_1) (kn ref09_Parse_L2_lo k) = ref09_Parse_L2 a_1 (fun r0 r1 => k .normal (ref09_Parse_L2_x0 r0 r1)) :=
  (by kernel_rfl : _ = loopN (fun st k => exec (ref09_Parse_L2_C ) (loopBody (codeAt Tryd.f38 2)) st k) [0, 4, 5, 6, 7] (loopK 2 (kn ref09_Parse_L2_lo k)) 18446744073709551616 (ref09_Parse_L2_h0 a_1 (-1) 0)).trans (ref09_Parse_L2_l0_eq k 18446744073709551616 a_1 (-1) 0)
def ref09_Parse_L2_p : PSt := { n := 41, m := 0, t := [(0, .v (.c (.pv (.str)))), (4, .v (.c (.pv (.int .u64 (.l 0))))), (5, .v (.c (.pv (.int .i64 (.l 0))))), (6, .v (.c (.pv (.int .i64 (.l (-1)))))), (7, .v (.c (.pv (.int .i64 (.l 0)))))], h := [], nx := 0 }
def ref09_Parse_L2_F (h : List Hole) (k : Kont) : Option Out := ref09_Parse_L2 (gS h 0) (fun r0 r1 => k .normal (ref09_Parse_L2_x0 r0 r1))
theorem ref09_Parse_L2_at (h : List Hole) : BodyAt Tryd.prog (codeAt Tryd.f38 2) (stFill ref09_Parse_L2_p h) (ref09_Parse_L2_F h) := by
  have e : stFill ref09_Parse_L2_p h = ref09_Parse_L2_e (gS h 0) := by kernel_rfl
  rw [e]; exact bodyAt_of (C := ref09_Parse_L2_C ) ⟨ttOk, eqOk, runS_ok ttOk eqOk mixed (names_ok namesOk) (S := ref09_Parse_L2_S ) (sums_cons yes22_ok (sums_cons itoa_ok (sums_cons num_ok (sums_cons idx_ok (sums_cons join_ok (sums_cons split_ok (sums_nil))))))) (B := ref09_Parse_L2_B ) (hooks_nil) opts 40⟩ mixed (hooked_in (by kernel_rfl) blk_nil 2) fun k => ref09_Parse_L2_eq _ k
/- weirgate/weirgateref09.Parse: loop 2 -/
def ref09_Parse_L2_v1_S  : List (Nat × Sm) := [(22, yes), (34, itoaSm), (13, numSm), (94, idxSm), (33, joinSm), (52, splitSm)]
def ref09_Parse_L2_v1_B  : Hooks := []
noncomputable def ref09_Parse_L2_v1_C  : Ctx := { tt := tt, eqs := has eql, call := runS tt (has eql) Tryd.prog.funcs 18446744073709551616 (ref09_Parse_L2_v1_S ) (ref09_Parse_L2_v1_B ) opts 40, fuel := 18446744073709551616, blk := fun i => aget [] i, bor := opts.bor }
def ref09_Parse_L2_v1_lo : Vx → List Nat := fun | .normal => [0, 4, 5, 6] | .exit j => bif Nat.beq j 1 then [0, 4, 5] else bif Nat.beq j 0 then [0, 4] else [] | .ret => [2, 3]
def ref09_Parse_L2_v1_h0 (a_1 : ByteArray) (a_2 a_3 a_4 a_5 : Int) : St := { n := 41, m := 0, t := [(0, .v (.c (.pv (.val (.string a_1))))), (4, .v (.c (.pv (.val (.int .u64 a_2))))), (5, .v (.c (.pv (.val (.int .i64 a_3))))), (6, .v (.c (.pv (.val (.int .i64 a_4))))), (7, .v (.c (.pv (.val (.int .i64 a_5)))))], h := [], nx := 0 }
def ref09_Parse_L2_v1_x0 (r0 : ByteArray) (r1 r2 r3 : Int) : St := { n := 41, m := 0, t := [(0, .v (.c (.pv (.val (.string r0))))), (4, .v (.c (.pv (.val (.int .u64 r1))))), (5, .v (.c (.pv (.val (.int .i64 r2))))), (6, .v (.c (.pv (.val (.int .i64 r3)))))], h := [], nx := 0 }
def ref09_Parse_L2_v1_s0 {α : Type}  (rec0 : ByteArray → Int → Int → Int → Int → Option α) (k0 : Y36 α) (a_1 : ByteArray) (a_2 a_3 a_4 a_5 : Int) : Option α := bif decide (a_5 < 16) then
  bif inb a_5 16 then
   bif inb a_3 a_1.size then
    bif ((e61 a_5) == (bt a_1 a_3)) then
     rec0 a_1 a_2 a_3 a_5 (IntKind.i64.wrap (a_5 + 1))
    else rec0 a_1 a_2 a_3 a_4 (IntKind.i64.wrap (a_5 + 1))
   else none /- test -/
  else none /- test -/
 else k0 a_1 a_2 a_3 a_4
def ref09_Parse_L2_v1_l0 {α : Type} (k0 : Y36 α) : Nat → ByteArray → Int → Int → Int → Int → Option α
  | 0 => fun _ _ _ _ _ => none
  | n + 1 => ref09_Parse_L2_v1_s0  (ref09_Parse_L2_v1_l0 k0 n) k0
theorem ref09_Parse_L2_v1_s0_eq  (k : Kont) (n : Nat) (a_1 : ByteArray) (a_2 a_3 a_4 a_5 : Int) : loopN (fun st k => exec (ref09_Parse_L2_v1_C ) (loopBody (codeAt Tryd.f38 2)) st k) [0, 4, 5, 6, 7] (loopK 2 (kn ref09_Parse_L2_v1_lo k)) (n + 1) (ref09_Parse_L2_v1_h0 a_1 a_2 a_3 a_4 a_5) = ref09_Parse_L2_v1_s0  (fun a_1 a_2 a_3 a_4 a_5 => loopN (fun st k => exec (ref09_Parse_L2_v1_C ) (loopBody (codeAt Tryd.f38 2)) st k) [0, 4, 5, 6, 7] (loopK 2 (kn ref09_Parse_L2_v1_lo k)) n (ref09_Parse_L2_v1_h0 a_1 a_2 a_3 a_4 a_5)) (fun r0 r1 r2 r3 => k .normal (ref09_Parse_L2_v1_x0 r0 r1 r2 r3)) a_1 a_2 a_3 a_4 a_5 := by kernel_rfl
theorem ref09_Parse_L2_v1_l0_eq (k : Kont) : ∀ (n : Nat) (a_1 : ByteArray) (a_2 a_3 a_4 a_5 : Int), loopN (fun st k => exec (ref09_Parse_L2_v1_C ) (loopBody (codeAt Tryd.f38 2)) st k) [0, 4, 5, 6, 7] (loopK 2 (kn ref09_Parse_L2_v1_lo k)) n (ref09_Parse_L2_v1_h0 a_1 a_2 a_3 a_4 a_5) = ref09_Parse_L2_v1_l0 (fun r0 r1 r2 r3 => k .normal (ref09_Parse_L2_v1_x0 r0 r1 r2 r3)) n a_1 a_2 a_3 a_4 a_5
  | 0, _, _, _, _, _ => rfl
  | n + 1, a_1, a_2, a_3, a_4, a_5 => by
    have r0 : (fun a_1 a_2 a_3 a_4 a_5 => loopN (fun st k => exec (ref09_Parse_L2_v1_C ) (loopBody (codeAt Tryd.f38 2)) st k) [0, 4, 5, 6, 7] (loopK 2 (kn ref09_Parse_L2_v1_lo k)) n (ref09_Parse_L2_v1_h0 a_1 a_2 a_3 a_4 a_5)) = ref09_Parse_L2_v1_l0 (fun r0 r1 r2 r3 => k .normal (ref09_Parse_L2_v1_x0 r0 r1 r2 r3)) n := funext fun a_1 => funext fun a_2 => funext fun a_3 => funext fun a_4 => funext fun a_5 => ref09_Parse_L2_v1_l0_eq k n a_1 a_2 a_3 a_4 a_5
    exact (ref09_Parse_L2_v1_s0_eq  k n a_1 a_2 a_3 a_4 a_5).trans (by rw [r0]; rfl)
def ref09_Parse_L2_v1 {α : Type} (a_1 : ByteArray) (a_2 a_3 : Int) (k0 : Y36 α) : Option α := ref09_Parse_L2_v1_l0 k0 18446744073709551616 a_1 a_2 a_3 (-1) 0
def ref09_Parse_L2_v1_e (a_1 : ByteArray) (a_2 a_3 : Int) : St := { n := 41, m := 0, t := [(0, .v (.c (.pv (.val (.string a_1))))), (4, .v (.c (.pv (.val (.int .u64 a_2))))), (5, .v (.c (.pv (.val (.int .i64 a_3))))), (6, .v (.c (.pv (.val (.int .i64 (-1)))))), (7, .v (.c (.pv (.val (.int .i64 0)))))], h := [], nx := 0 }
theorem ref09_Parse_L2_v1_eq (a_1 : ByteArray) (a_2 a_3 : Int) (k : Kont) : exec (ref09_Parse_L2_v1_C ) (codeAt Tryd.f38 2) (ref09_Parse_L2_v1_e a_1 a_2 a_3) (kn ref09_Parse_L2_v1_lo k) = ref09_Parse_L2_v1 a_1 a_2 a_3 (fun r0 r1 r2 r3 => k .normal (ref09_Parse_L2_v1_x0 r0 r1 r2 r3)) :=
  (by kernel_rfl : _ = loopN (fun st k => exec (ref09_Parse_L2_v1_C ) (loopBody (codeAt Tryd.f38 2)) st k) [0, 4, 5, 6, 7] (loopK 2 (kn ref09_Parse_L2_v1_lo k)) 18446744073709551616 (ref09_Parse_L2_v1_h0 a_1 a_2 a_3 (-1) 0)).trans (ref09_Parse_L2_v1_l0_eq k 18446744073709551616 a_1 a_2 a_3 (-1) 0)
def ref09_Parse_L2_v1_p : PSt := { n := 41, m := 0, t := [(0, .v (.c (.pv (.str)))), (4, .v (.c (.pv (.int .u64 .h)))), (5, .v (.c (.pv (.int .i64 .h)))), (6, .v (.c (.pv (.int .i64 (.l (-1)))))), (7, .v (.c (.pv (.int .i64 (.l 0)))))], h := [], nx := 0 }
def ref09_Parse_L2_v1_F (h : List Hole) (k : Kont) : Option Out := ref09_Parse_L2_v1 (gS h 0) (gI h 1) (gI h 2) (fun r0 r1 r2 r3 => k .normal (ref09_Parse_L2_v1_x0 r0 r1 r2 r3))
theorem ref09_Parse_L2_v1_at (h : List Hole) : BodyAt Tryd.prog (codeAt Tryd.f38 2) (stFill ref09_Parse_L2_v1_p h) (ref09_Parse_L2_v1_F h) := by
  have e : stFill ref09_Parse_L2_v1_p h = ref09_Parse_L2_v1_e (gS h 0) (gI h 1) (gI h 2) := by kernel_rfl
  rw [e]; exact bodyAt_of (C := ref09_Parse_L2_v1_C ) ⟨ttOk, eqOk, runS_ok ttOk eqOk mixed (names_ok namesOk) (S := ref09_Parse_L2_v1_S ) (sums_cons yes22_ok (sums_cons itoa_ok (sums_cons num_ok (sums_cons idx_ok (sums_cons join_ok (sums_cons split_ok (sums_nil))))))) (B := ref09_Parse_L2_v1_B ) (hooks_nil) opts 40⟩ mixed (hooked_in (by kernel_rfl) blk_nil 2) fun k => ref09_Parse_L2_v1_eq _ _ _ k
/- weirgate/weirgateref09.Parse: loop 0 -/
def ref09_Parse_L0_S (Gref09_Parse_L2_v1 : Y21 Out) : List (Nat × Sm) := [(22, yes), (34, itoaSm), (13, numSm), (94, idxSm), (33, joinSm), (52, splitSm)]
def ref09_Parse_L0_B (Gref09_Parse_L2_v1 : Y21 Out) : Hooks := []
noncomputable def ref09_Parse_L0_C (Gref09_Parse_L2_v1 : Y21 Out) : Ctx := { tt := tt, eqs := has eql, call := runS tt (has eql) Tryd.prog.funcs 18446744073709551616 (ref09_Parse_L0_S Gref09_Parse_L2_v1) (ref09_Parse_L0_B Gref09_Parse_L2_v1) opts 40, fuel := 18446744073709551616, blk := fun i => aget [(2, hookG [0, 4, 5, 6, 7] [] (bkOf [(ref09_Parse_L2_v1_p, fun h k => Gref09_Parse_L2_v1 (gS h 0) (gI h 1) (gI h 2) (fun r0 r1 r2 r3 => k .normal (ref09_Parse_L2_v1_x0 r0 r1 r2 r3))), (ref09_Parse_L2_p, ref09_Parse_L2_F)]))] i, bor := opts.bor }
def ref09_Parse_L0_lo : Vx → List Nat := fun | .normal => [0, 4] | .exit j => (fun _ => []) j | .ret => [2, 3]
def ref09_Parse_L0_h0 (a_1 : ByteArray) (a_2 a_3 : Int) : St := { n := 41, m := 0, t := [(0, .v (.c (.pv (.val (.string a_1))))), (4, .v (.c (.pv (.val (.int .u64 a_2))))), (5, .v (.c (.pv (.val (.int .i64 a_3)))))], h := [], nx := 0 }
def ref09_Parse_L0_x0  : St := { n := 41, m := 0, t := [(2, .v (.c (.pv (.val (.int .u64 0))))), (3, .v (.c (.pv (.val (.int .i64 11)))))], h := [], nx := 0 }
def ref09_Parse_L0_x1 (r0 : ByteArray) (r1 : Int) : St := { n := 41, m := 0, t := [(0, .v (.c (.pv (.val (.string r0))))), (4, .v (.c (.pv (.val (.int .u64 r1)))))], h := [], nx := 0 }
def ref09_Parse_L0_s0 {α : Type} (Gref09_Parse_L2_v1 : Y21 α) (rec0 : Y37 α) (k0 : Option α) (k1 : Y39 α) (a_1 : ByteArray) (a_2 a_3 : Int) : Option α := bif decide (a_3 < 17) then
  bif ((a_3.tmod 3) == 2) then
   rec0 a_1 a_2 (IntKind.i64.wrap (a_3 + 1))
  else Gref09_Parse_L2_v1 a_1 a_2 a_3
   (fun r_4 r_5 r_6 r_7 => bif decide (r_7 < 0) then
    k0
   else rec0 r_4 (IntKind.u64.wrap ((IntKind.u64.wrap (r_5 * 16)) + (IntKind.u64.wrap r_7))) (IntKind.i64.wrap (r_6 + 1)))
 else k1 a_1 a_2
def ref09_Parse_L0_l0 {α : Type} (k0 : Option α) (k1 : Y39 α) : Nat → ByteArray → Int → Int → Option α
  | 0 => fun _ _ _ => none
  | n + 1 => ref09_Parse_L0_s0 ref09_Parse_L2_v1 (ref09_Parse_L0_l0 k0 k1 n) k0 k1
theorem ref09_Parse_L0_s0_eq (Gref09_Parse_L2_v1 : Y21 Out) (k : Kont) (n : Nat) (a_1 : ByteArray) (a_2 a_3 : Int) : loopN (fun st k => exec (ref09_Parse_L0_C Gref09_Parse_L2_v1) (loopBody (codeAt Tryd.f38 0)) st k) [0, 4, 5] (loopK 0 (kn ref09_Parse_L0_lo k)) (n + 1) (ref09_Parse_L0_h0 a_1 a_2 a_3) = ref09_Parse_L0_s0 Gref09_Parse_L2_v1 (fun a_1 a_2 a_3 => loopN (fun st k => exec (ref09_Parse_L0_C Gref09_Parse_L2_v1) (loopBody (codeAt Tryd.f38 0)) st k) [0, 4, 5] (loopK 0 (kn ref09_Parse_L0_lo k)) n (ref09_Parse_L0_h0 a_1 a_2 a_3)) (k .ret (ref09_Parse_L0_x0)) (fun r0 r1 => k .normal (ref09_Parse_L0_x1 r0 r1)) a_1 a_2 a_3 := by kernel_rfl
theorem ref09_Parse_L0_l0_eq (k : Kont) : ∀ (n : Nat) (a_1 : ByteArray) (a_2 a_3 : Int), loopN (fun st k => exec (ref09_Parse_L0_C ref09_Parse_L2_v1) (loopBody (codeAt Tryd.f38 0)) st k) [0, 4, 5] (loopK 0 (kn ref09_Parse_L0_lo k)) n (ref09_Parse_L0_h0 a_1 a_2 a_3) = ref09_Parse_L0_l0 (k .ret (ref09_Parse_L0_x0)) (fun r0 r1 => k .normal (ref09_Parse_L0_x1 r0 r1)) n a_1 a_2 a_3
  | 0, _, _, _ => rfl
  | n + 1, a_1, a_2, a_3 => by
    have r0 : (fun a_1 a_2 a_3 => loopN (fun st k => exec (ref09_Parse_L0_C ref09_Parse_L2_v1) (loopBody (codeAt Tryd.f38 0)) st k) [0, 4, 5] (loopK 0 (kn ref09_Parse_L0_lo k)) n (ref09_Parse_L0_h0 a_1 a_2 a_3)) = ref09_Parse_L0_l0 (k .ret (ref09_Parse_L0_x0)) (fun r0 r1 => k .normal (ref09_Parse_L0_x1 r0 r1)) n := funext fun a_1 => funext fun a_2 => funext fun a_3 => ref09_Parse_L0_l0_eq k n a_1 a_2 a_3
    exact (ref09_Parse_L0_s0_eq ref09_Parse_L2_v1 k n a_1 a_2 a_3).trans (by rw [r0]; rfl)
def ref09_Parse_L0 {α : Type} (a_1 : ByteArray) (k0 : Option α) (k1 : Y39 α) : Option α := ref09_Parse_L0_l0 k0 k1 18446744073709551616 a_1 0 0
def ref09_Parse_L0_e (a_1 : ByteArray) : St := { n := 41, m := 0, t := [(0, .v (.c (.pv (.val (.string a_1))))), (4, .v (.c (.pv (.val (.int .u64 0))))), (5, .v (.c (.pv (.val (.int .i64 0)))))], h := [], nx := 0 }
theorem ref09_Parse_L0_eq (a_1 : ByteArray) (k : Kont) : exec (ref09_Parse_L0_C ref09_Parse_L2_v1) (codeAt Tryd.f38 0) (ref09_Parse_L0_e a_1) (kn ref09_Parse_L0_lo k) = ref09_Parse_L0 a_1 (k .ret (ref09_Parse_L0_x0)) (fun r0 r1 => k .normal (ref09_Parse_L0_x1 r0 r1)) :=
  (by kernel_rfl : _ = loopN (fun st k => exec (ref09_Parse_L0_C ref09_Parse_L2_v1) (loopBody (codeAt Tryd.f38 0)) st k) [0, 4, 5] (loopK 0 (kn ref09_Parse_L0_lo k)) 18446744073709551616 (ref09_Parse_L0_h0 a_1 0 0)).trans (ref09_Parse_L0_l0_eq k 18446744073709551616 a_1 0 0)
def ref09_Parse_L0_p : PSt := { n := 41, m := 0, t := [(0, .v (.c (.pv (.str)))), (4, .v (.c (.pv (.int .u64 (.l 0))))), (5, .v (.c (.pv (.int .i64 (.l 0)))))], h := [], nx := 0 }
def ref09_Parse_L0_F (h : List Hole) (k : Kont) : Option Out := ref09_Parse_L0 (gS h 0) (k .ret (ref09_Parse_L0_x0)) (fun r0 r1 => k .normal (ref09_Parse_L0_x1 r0 r1))
theorem ref09_Parse_L0_at (h : List Hole) : BodyAt Tryd.prog (codeAt Tryd.f38 0) (stFill ref09_Parse_L0_p h) (ref09_Parse_L0_F h) := by
  have e : stFill ref09_Parse_L0_p h = ref09_Parse_L0_e (gS h 0) := by kernel_rfl
  rw [e]; exact bodyAt_of (C := ref09_Parse_L0_C ref09_Parse_L2_v1) ⟨ttOk, eqOk, runS_ok ttOk eqOk mixed (names_ok namesOk) (S := ref09_Parse_L0_S ref09_Parse_L2_v1) (sums_cons yes22_ok (sums_cons itoa_ok (sums_cons num_ok (sums_cons idx_ok (sums_cons join_ok (sums_cons split_ok (sums_nil))))))) (B := ref09_Parse_L0_B ref09_Parse_L2_v1) (hooks_nil) opts 40⟩ mixed (hooked_in (by kernel_rfl) (blk_cons (bkOf_ok (blts_cons ref09_Parse_L2_v1_at (blts_cons ref09_Parse_L2_at blts_nil))) blk_nil) 0) fun k => ref09_Parse_L0_eq _ k
/- weirgate/weirgateref09.Parse -/
def ref09_Parse_T {α : Type} (Gref09_Parse_L0 : Y24 α) (Gref09_Text : Y34 α) (a_1 : ByteArray) (k0 : Int → Int → Option α) : Option α := bif ((a_1.size : Int) != 17) then
  k0 0 11
 else Gref09_Parse_L0 a_1
  (k0 0 11)
  (fun r_2 r_3 => Gref09_Text r_3
   (fun r_4 => bif !(r_4.toList == r_2.toList) then
    k0 0 11
   else k0 r_3 0))
def ref09_Parse {α : Type} (a_1 : ByteArray) (k0 : Int → Int → Option α) : Option α := ref09_Parse_T ref09_Parse_L0 ref09_Text a_1 k0
def ref09_Parse_S (Gref09_Parse_L0 : Y24 Out) (Gref09_Text : Y34 Out) : List (Nat × Sm) := [(22, yes), (34, itoaSm), (13, numSm), (94, idxSm), (33, joinSm), (52, splitSm), (42, smOf [(ref09_Text_p, fun h k => Gref09_Text (gI h 0) (fun r0 => k (.v (.c (.pv (.val (.string r0))))) []))])]
def ref09_Parse_B (Gref09_Parse_L0 : Y24 Out) (Gref09_Text : Y34 Out) : Hooks := [(38, [(0, hookG [0, 4, 5] [] (bkOf [(ref09_Parse_L0_p, fun h k => Gref09_Parse_L0 (gS h 0) (k .ret (ref09_Parse_L0_x0)) (fun r0 r1 => k .normal (ref09_Parse_L0_x1 r0 r1)))]))])]
theorem ref09_Parse_eq (Gref09_Parse_L0 : Y24 Out) (Gref09_Text : Y34 Out) (a_1 : ByteArray) (k : FK) : runS tt (has eql) Tryd.prog.funcs 18446744073709551616 (ref09_Parse_S Gref09_Parse_L0 Gref09_Text) (ref09_Parse_B Gref09_Parse_L0 Gref09_Text) opts 40 38 [.v (.c (.pv (.val (.string a_1))))] [] k = ref09_Parse_T Gref09_Parse_L0 Gref09_Text a_1 (fun r0 r1 => k (.tup [.c (.pv (.val (.int .u64 r0))), .c (.pv (.val (.int .i64 r1)))]) []) := by kernel_rfl
def ref09_Parse_p : PAr := ⟨[.v (.c (.pv (.str)))], []⟩
def ref09_Parse_F (h : List Hole) (k : FK) : Option Out := ref09_Parse (gS h 0) (fun r0 r1 => k (.tup [.c (.pv (.val (.int .u64 r0))), .c (.pv (.val (.int .i64 r1)))]) [])
theorem ref09_Parse_at (h : List Hole) : CallAt Tryd.prog 38 (arFill ref09_Parse_p h).1 (arFill ref09_Parse_p h).2 (ref09_Parse_F h) := by
  have e : arFill ref09_Parse_p h = ([.v (.c (.pv (.val (.string (gS h 0)))))], []) := by kernel_rfl
  rw [e]; exact callAt_of (runS_ok ttOk eqOk mixed (names_ok namesOk) (S := ref09_Parse_S ref09_Parse_L0 ref09_Text) (sums_cons yes22_ok (sums_cons itoa_ok (sums_cons num_ok (sums_cons idx_ok (sums_cons join_ok (sums_cons split_ok (sums_cons (smOf_ok (alts_cons ref09_Text_at alts_nil)) (sums_nil)))))))) (B := ref09_Parse_B ref09_Parse_L0 ref09_Text) (hooks_add (fn := Tryd.f38) (by kernel_rfl) (by kernel_rfl) (blk_cons (bkOf_ok (blts_cons ref09_Parse_L0_at blts_nil)) blk_nil) (hooks_nil)) opts 40) fun k => ref09_Parse_eq ref09_Parse_L0 ref09_Text _ k
/- weirgate/weirgateref22.Line: loop 2 -/
def ref22_Line_L2_S (Gref21_Num : Y29 Out) (Gref09_Parse : Y32 Out) : List (Nat × Sm) := [(22, yes), (34, itoaSm), (13, numSm), (94, idxSm), (33, joinSm), (52, splitSm), (14, smOf [(ref21_Num_p, fun h k => Gref21_Num (gS h 0) (k (.v (.agg [.pv (.val (.int .i64 0)), .pv (.val (.bool false))])) []) (fun r0 => k (.v (.agg [.pv (.val (.int .i64 r0)), .pv (.val (.bool true))])) []))]), (38, smOf [(ref09_Parse_p, fun h k => Gref09_Parse (gS h 0) (fun r0 r1 => k (.tup [.c (.pv (.val (.int .u64 r0))), .c (.pv (.val (.int .i64 r1)))]) []))])]
def ref22_Line_L2_B (Gref21_Num : Y29 Out) (Gref09_Parse : Y32 Out) : Hooks := []
noncomputable def ref22_Line_L2_C (Gref21_Num : Y29 Out) (Gref09_Parse : Y32 Out) : Ctx := { tt := tt, eqs := has eql, call := runS tt (has eql) Tryd.prog.funcs 18446744073709551616 (ref22_Line_L2_S Gref21_Num Gref09_Parse) (ref22_Line_L2_B Gref21_Num Gref09_Parse) opts 40, fuel := 18446744073709551616, blk := fun i => aget [] i, bor := opts.bor }
def ref22_Line_L2_lo : Vx → List Nat := fun | .normal => [2, 3, 4, 5, 6, 7, 8] | .exit j => bif Nat.beq j 1 then [2, 3, 4, 5] else bif Nat.beq j 0 then [2] else [] | .ret => [2]
def ref22_Line_L2_h0 (a_1 : Int) (a_2 : Bool) (a_3 : Int) (a_4 : Bool) (a_5 : Nat) (a_6 a_7 : Nat → Nat → PV) (a_8 : Bool) (a_9 : Nat) (a_10 : Nat → Nat → PV) : St := { n := 110, m := 0, t := [(2, .v (.c (.ptr 0 0))), (3, .v (.c (.own 1))), (4, .v (.c (.own 2))), (5, .v (.c (.pv (.val (.int .i64 0))))), (6, .v (.c (.own 3))), (7, .v (.c (.pv (.val (.int .u64 a_1))))), (8, .v (.c (.pv (.val (.bool a_2))))), (9, .v (.c (.pv (.val (.int .i64 a_3)))))], h := [(0, .cells false [.pv (.val (.int .i64 0)), .pv (.val (.int .i64 0)), .pv (.val (.int .i64 0)), .pv (.val (.int .i64 0)), .pv (.val (.int .i64 0)), .pv (.val (.int .u8 0)), .pv (.val (.int .u8 0)), .pv (.val (.int .u64 0)), .pv (.val (.int .i64 0))]), (1, .parr false a_4 (.str .nil) 1 a_5 (a_6)), (2, .parr false false (.sl (.str .nil) 1 .nil) 1 16 (a_7)), (3, .parr false a_8 (.int .i64 .nil) 1 a_9 (a_10))], nx := 4 }
def ref22_Line_L2_x0 (r0 : Int) (r1 r2 : Bool) (r3 : Nat) (r4 r5 : Nat → Nat → PV) (r6 : Bool) (r7 : Nat) (r8 : Nat → Nat → PV) : St := { n := 110, m := 0, t := [(2, .v (.c (.ptr 0 0))), (3, .v (.c (.own 1))), (4, .v (.c (.own 2))), (5, .v (.c (.pv (.val (.int .i64 0))))), (6, .v (.c (.own 3))), (7, .v (.c (.pv (.val (.int .u64 r0))))), (8, .v (.c (.pv (.val (.bool r1)))))], h := [(0, .cells false [.pv (.val (.int .i64 0)), .pv (.val (.int .i64 0)), .pv (.val (.int .i64 0)), .pv (.val (.int .i64 0)), .pv (.val (.int .i64 0)), .pv (.val (.int .u8 0)), .pv (.val (.int .u8 0)), .pv (.val (.int .u64 0)), .pv (.val (.int .i64 0))]), (1, .parr false r2 (.str .nil) 1 r3 (r4)), (2, .parr false false (.sl (.str .nil) 1 .nil) 1 16 (r5)), (3, .parr false r6 (.int .i64 .nil) 1 r7 (r8))], nx := 4 }
def ref22_Line_L2_s0 {α : Type} (Gref21_Num : Y29 α) (Gref09_Parse : Y32 α) (rec0 : Int → Bool → Int → Bool → Nat → (Nat → Nat → PV) → (Nat → Nat → PV) → Bool → Nat → (Nat → Nat → PV) → Option α) (k0 : Y14 α) (a_1 : Int) (a_2 : Bool) (a_3 : Int) (a_4 : Bool) (a_5 : Nat) (a_6 a_7 : Nat → Nat → PV) (a_8 : Bool) (a_9 : Nat) (a_10 : Nat → Nat → PV) : Option α := bif decide (a_3 < (a_5 : Int)) then
  bif inb a_3 (lenOf (a_7 0 0)) then
   bif ((textOf ((fnOf (a_7 0 0)) a_3.toNat 0)).toList == (⟨#[35]⟩ : ByteArray).toList) then
    bif inb a_3 a_5 then
     Gref21_Num (textOf (a_6 a_3.toNat 0))
      (bif Nat.ble ((a_9 + 1) * 8) bound then
       bif a_2 then
        rec0 a_1 false (IntKind.i64.wrap (a_3 + 1)) a_4 a_5 a_6 a_7 (a_8 && false) (a_9 + 1) (catf a_9 (a_10) (rowOf 1 [.val (.int .i64 0)]))
       else rec0 a_1 false (IntKind.i64.wrap (a_3 + 1)) a_4 a_5 a_6 a_7 (a_8 && false) (a_9 + 1) (catf a_9 (a_10) (rowOf 1 [.val (.int .i64 0)]))
      else none /- test -/)
      (fun r_11 => bif Nat.ble ((a_9 + 1) * 8) bound then
       bif a_2 then
        rec0 a_1 true (IntKind.i64.wrap (a_3 + 1)) a_4 a_5 a_6 a_7 (a_8 && false) (a_9 + 1) (catf a_9 (a_10) (rowOf 1 [.val (.int .i64 r_11)]))
       else rec0 a_1 false (IntKind.i64.wrap (a_3 + 1)) a_4 a_5 a_6 a_7 (a_8 && false) (a_9 + 1) (catf a_9 (a_10) (rowOf 1 [.val (.int .i64 r_11)]))
      else none /- test -/)
    else none /- test -/
   else bif ((textOf ((fnOf (a_7 0 0)) a_3.toNat 0)).toList == (⟨#[64]⟩ : ByteArray).toList) then
    bif inb a_3 a_5 then
     Gref09_Parse (textOf (a_6 a_3.toNat 0))
      (fun r_11 r_12 => bif a_2 then
       rec0 r_11 (r_12 == 0) (IntKind.i64.wrap (a_3 + 1)) a_4 a_5 a_6 a_7 a_8 a_9 a_10
      else rec0 r_11 false (IntKind.i64.wrap (a_3 + 1)) a_4 a_5 a_6 a_7 a_8 a_9 a_10)
    else none /- test -/
   else bif a_2 then
    bif inb a_3 a_5 then
     bif inb a_3 (lenOf (a_7 0 0)) then
      rec0 a_1 ((textOf (a_6 a_3.toNat 0)).toList == (textOf ((fnOf (a_7 0 0)) a_3.toNat 0)).toList) (IntKind.i64.wrap (a_3 + 1)) a_4 a_5 a_6 a_7 a_8 a_9 a_10
     else none /- test -/
    else none /- test -/
   else rec0 a_1 false (IntKind.i64.wrap (a_3 + 1)) a_4 a_5 a_6 a_7 a_8 a_9 a_10
  else none /- test -/
 else k0 a_1 a_2 a_4 a_5 a_6 a_7 a_8 a_9 a_10
def ref22_Line_L2_l0 {α : Type} (k0 : Y14 α) : Nat → Int → Bool → Int → Bool → Nat → (Nat → Nat → PV) → (Nat → Nat → PV) → Bool → Nat → (Nat → Nat → PV) → Option α
  | 0 => fun _ _ _ _ _ _ _ _ _ _ => none
  | n + 1 => ref22_Line_L2_s0 ref21_Num ref09_Parse (ref22_Line_L2_l0 k0 n) k0
theorem ref22_Line_L2_s0_eq (Gref21_Num : Y29 Out) (Gref09_Parse : Y32 Out) (k : Kont) (n : Nat) (a_1 : Int) (a_2 : Bool) (a_3 : Int) (a_4 : Bool) (a_5 : Nat) (a_6 a_7 : Nat → Nat → PV) (a_8 : Bool) (a_9 : Nat) (a_10 : Nat → Nat → PV) : loopN (fun st k => exec (ref22_Line_L2_C Gref21_Num Gref09_Parse) (loopBody (codeAt Tryd.f24 2)) st k) [2, 3, 4, 5, 6, 7, 8, 9] (loopK 2 (kn ref22_Line_L2_lo k)) (n + 1) (ref22_Line_L2_h0 a_1 a_2 a_3 a_4 a_5 a_6 a_7 a_8 a_9 a_10) = ref22_Line_L2_s0 Gref21_Num Gref09_Parse (fun a_1 a_2 a_3 a_4 a_5 a_6 a_7 a_8 a_9 a_10 => loopN (fun st k => exec (ref22_Line_L2_C Gref21_Num Gref09_Parse) (loopBody (codeAt Tryd.f24 2)) st k) [2, 3, 4, 5, 6, 7, 8, 9] (loopK 2 (kn ref22_Line_L2_lo k)) n (ref22_Line_L2_h0 a_1 a_2 a_3 a_4 a_5 a_6 a_7 a_8 a_9 a_10)) (fun r0 r1 r2 r3 r4 r5 r6 r7 r8 => k .normal (ref22_Line_L2_x0 r0 r1 r2 r3 r4 r5 r6 r7 r8)) a_1 a_2 a_3 a_4 a_5 a_6 a_7 a_8 a_9 a_10 := by kernel_rfl
theorem ref22_Line_L2_l0_eq (k : Kont) : ∀ (n : Nat) (a_1 : Int) (a_2 : Bool) (a_3 : Int) (a_4 : Bool) (a_5 : Nat) (a_6 a_7 : Nat → Nat → PV) (a_8 : Bool) (a_9 : Nat) (a_10 : Nat → Nat → PV), loopN (fun st k => exec (ref22_Line_L2_C ref21_Num ref09_Parse) (loopBody (codeAt Tryd.f24 2)) st k) [2, 3, 4, 5, 6, 7, 8, 9] (loopK 2 (kn ref22_Line_L2_lo k)) n (ref22_Line_L2_h0 a_1 a_2 a_3 a_4 a_5 a_6 a_7 a_8 a_9 a_10) = ref22_Line_L2_l0 (fun r0 r1 r2 r3 r4 r5 r6 r7 r8 => k .normal (ref22_Line_L2_x0 r0 r1 r2 r3 r4 r5 r6 r7 r8)) n a_1 a_2 a_3 a_4 a_5 a_6 a_7 a_8 a_9 a_10
  | 0, _, _, _, _, _, _, _, _, _, _ => rfl
  | n + 1, a_1, a_2, a_3, a_4, a_5, a_6, a_7, a_8, a_9, a_10 => by
    have r0 : (fun a_1 a_2 a_3 a_4 a_5 a_6 a_7 a_8 a_9 a_10 => loopN (fun st k => exec (ref22_Line_L2_C ref21_Num ref09_Parse) (loopBody (codeAt Tryd.f24 2)) st k) [2, 3, 4, 5, 6, 7, 8, 9] (loopK 2 (kn ref22_Line_L2_lo k)) n (ref22_Line_L2_h0 a_1 a_2 a_3 a_4 a_5 a_6 a_7 a_8 a_9 a_10)) = ref22_Line_L2_l0 (fun r0 r1 r2 r3 r4 r5 r6 r7 r8 => k .normal (ref22_Line_L2_x0 r0 r1 r2 r3 r4 r5 r6 r7 r8)) n := funext fun a_1 => funext fun a_2 => funext fun a_3 => funext fun a_4 => funext fun a_5 => funext fun a_6 => funext fun a_7 => funext fun a_8 => funext fun a_9 => funext fun a_10 => ref22_Line_L2_l0_eq k n a_1 a_2 a_3 a_4 a_5 a_6 a_7 a_8 a_9 a_10
    exact (ref22_Line_L2_s0_eq ref21_Num ref09_Parse k n a_1 a_2 a_3 a_4 a_5 a_6 a_7 a_8 a_9 a_10).trans (by rw [r0]; rfl)
def ref22_Line_L2 {α : Type} (a_1 : Bool) (a_2 : Nat) (a_3 a_4 a_5 : Nat → Nat → PV) (k0 : Y14 α) : Option α := ref22_Line_L2_l0 k0 18446744073709551616 0 true 0 a_1 a_2 a_3 a_4 true 0 a_5
def ref22_Line_L2_e (a_1 : Bool) (a_2 : Nat) (a_3 a_4 a_5 : Nat → Nat → PV) : St := { n := 110, m := 0, t := [(2, .v (.c (.ptr 0 0))), (3, .v (.c (.own 1))), (4, .v (.c (.own 2))), (5, .v (.c (.pv (.val (.int .i64 0))))), (6, .v (.c (.own 3))), (7, .v (.c (.pv (.val (.int .u64 0))))), (8, .v (.c (.pv (.val (.bool true))))), (9, .v (.c (.pv (.val (.int .i64 0)))))], h := [(0, .cells false [.pv (.val (.int .i64 0)), .pv (.val (.int .i64 0)), .pv (.val (.int .i64 0)), .pv (.val (.int .i64 0)), .pv (.val (.int .i64 0)), .pv (.val (.int .u8 0)), .pv (.val (.int .u8 0)), .pv (.val (.int .u64 0)), .pv (.val (.int .i64 0))]), (1, .parr false a_1 (.str .nil) 1 a_2 (a_3)), (2, .parr false false (.sl (.str .nil) 1 .nil) 1 16 (a_4)), (3, .parr false true (.int .i64 .nil) 1 0 (a_5))], nx := 4 }
theorem ref22_Line_L2_eq (a_1 : Bool) (a_2 : Nat) (a_3 a_4 a_5 : Nat → Nat → PV) (k : Kont) : exec (ref22_Line_L2_C ref21_Num ref09_Parse) (codeAt Tryd.f24 2) (ref22_Line_L2_e a_1 a_2 a_3 a_4 a_5) (kn ref22_Line_L2_lo k) = ref22_Line_L2 a_1 a_2 a_3 a_4 a_5 (fun r0 r1 r2 r3 r4 r5 r6 r7 r8 => k .normal (ref22_Line_L2_x0 r0 r1 r2 r3 r4 r5 r6 r7 r8)) :=
  (by kernel_rfl : _ = loopN (fun st k => exec (ref22_Line_L2_C ref21_Num ref09_Parse) (loopBody (codeAt Tryd.f24 2)) st k) [2, 3, 4, 5, 6, 7, 8, 9] (loopK 2 (kn ref22_Line_L2_lo k)) 18446744073709551616 (ref22_Line_L2_h0 0 true 0 a_1 a_2 a_3 a_4 true 0 a_5)).trans (ref22_Line_L2_l0_eq k 18446744073709551616 0 true 0 a_1 a_2 a_3 a_4 true 0 a_5)
def ref22_Line_L2_p : PSt := { n := 110, m := 0, t := [(2, .v (.c (.ptr 0 0))), (3, .v (.c (.own 1))), (4, .v (.c (.own 2))), (5, .v (.c (.pv (.int .i64 (.l 0))))), (6, .v (.c (.own 3))), (7, .v (.c (.pv (.int .u64 (.l 0))))), (8, .v (.c (.pv (.bool (.l true))))), (9, .v (.c (.pv (.int .i64 (.l 0)))))], h := [(0, .cells (.l false) [.pv (.int .i64 (.l 0)), .pv (.int .i64 (.l 0)), .pv (.int .i64 (.l 0)), .pv (.int .i64 (.l 0)), .pv (.int .i64 (.l 0)), .pv (.int .u8 (.l 0)), .pv (.int .u8 (.l 0)), .pv (.int .u64 (.l 0)), .pv (.int .i64 (.l 0))]), (1, .parr (.l false) .h (.str .nil) 1 .h), (2, .parr (.l false) (.l false) (.sl (.str .nil) 1 .nil) 1 (.l 16)), (3, .parr (.l false) (.l true) (.int .i64 .nil) 1 (.l 0))], nx := 4 }
def ref22_Line_L2_F (h : List Hole) (k : Kont) : Option Out := ref22_Line_L2 (gB h 0) (gN h 1) (gF h 2) (gF h 3) (gF h 4) (fun r0 r1 r2 r3 r4 r5 r6 r7 r8 => k .normal (ref22_Line_L2_x0 r0 r1 r2 r3 r4 r5 r6 r7 r8))
theorem ref22_Line_L2_at (h : List Hole) : BodyAt Tryd.prog (codeAt Tryd.f24 2) (stFill ref22_Line_L2_p h) (ref22_Line_L2_F h) := by
  have e : stFill ref22_Line_L2_p h = ref22_Line_L2_e (gB h 0) (gN h 1) (gF h 2) (gF h 3) (gF h 4) := by kernel_rfl
  rw [e]; exact bodyAt_of (C := ref22_Line_L2_C ref21_Num ref09_Parse) ⟨ttOk, eqOk, runS_ok ttOk eqOk mixed (names_ok namesOk) (S := ref22_Line_L2_S ref21_Num ref09_Parse) (sums_cons yes22_ok (sums_cons itoa_ok (sums_cons num_ok (sums_cons idx_ok (sums_cons join_ok (sums_cons split_ok (sums_cons (smOf_ok (alts_cons ref21_Num_at alts_nil)) (sums_cons (smOf_ok (alts_cons ref09_Parse_at alts_nil)) (sums_nil))))))))) (B := ref22_Line_L2_B ref21_Num ref09_Parse) (hooks_nil) opts 40⟩ mixed (hooked_in (by kernel_rfl) blk_nil 2) fun k => ref22_Line_L2_eq _ _ _ _ _ k
def e62 (x0 : Nat → Nat → PV) (x1 : Int) (x2 : Nat → Nat → PV) (x3 : Int) : Bool := ((textOf (x0 x1.toNat 0)).toList == (textOf ((fnOf (x2 x3.toNat 0)) x1.toNat 0)).toList)
/- weirgate/weirgateref22.Line: loop 2 -/
def ref22_Line_L2_v1_S (Gref21_Num : Y29 Out) (Gref09_Parse : Y32 Out) : List (Nat × Sm) := [(22, yes), (34, itoaSm), (13, numSm), (94, idxSm), (33, joinSm), (52, splitSm), (14, smOf [(ref21_Num_p, fun h k => Gref21_Num (gS h 0) (k (.v (.agg [.pv (.val (.int .i64 0)), .pv (.val (.bool false))])) []) (fun r0 => k (.v (.agg [.pv (.val (.int .i64 r0)), .pv (.val (.bool true))])) []))]), (38, smOf [(ref09_Parse_p, fun h k => Gref09_Parse (gS h 0) (fun r0 r1 => k (.tup [.c (.pv (.val (.int .u64 r0))), .c (.pv (.val (.int .i64 r1)))]) []))])]
def ref22_Line_L2_v1_B (Gref21_Num : Y29 Out) (Gref09_Parse : Y32 Out) : Hooks := []
noncomputable def ref22_Line_L2_v1_C (Gref21_Num : Y29 Out) (Gref09_Parse : Y32 Out) : Ctx := { tt := tt, eqs := has eql, call := runS tt (has eql) Tryd.prog.funcs 18446744073709551616 (ref22_Line_L2_v1_S Gref21_Num Gref09_Parse) (ref22_Line_L2_v1_B Gref21_Num Gref09_Parse) opts 40, fuel := 18446744073709551616, blk := fun i => aget [] i, bor := opts.bor }
def ref22_Line_L2_v1_lo : Vx → List Nat := fun | .normal => [2, 3, 4, 5, 6, 7, 8] | .exit j => bif Nat.beq j 1 then [2, 3, 4, 5] else bif Nat.beq j 0 then [2] else [] | .ret => [2]
def ref22_Line_L2_v1_h0 (a_1 a_2 : Int) (a_3 : Bool) (a_4 : Int) (a_5 : Bool) (a_6 : Nat) (a_7 a_8 : Nat → Nat → PV) (a_9 : Bool) (a_10 : Nat) (a_11 : Nat → Nat → PV) : St := { n := 110, m := 0, t := [(2, .v (.c (.ptr 0 0))), (3, .v (.c (.own 1))), (4, .v (.c (.own 2))), (5, .v (.c (.pv (.val (.int .i64 a_1))))), (6, .v (.c (.own 3))), (7, .v (.c (.pv (.val (.int .u64 a_2))))), (8, .v (.c (.pv (.val (.bool a_3))))), (9, .v (.c (.pv (.val (.int .i64 a_4)))))], h := [(0, .cells false [.pv (.val (.int .i64 0)), .pv (.val (.int .i64 0)), .pv (.val (.int .i64 0)), .pv (.val (.int .i64 0)), .pv (.val (.int .i64 0)), .pv (.val (.int .u8 0)), .pv (.val (.int .u8 0)), .pv (.val (.int .u64 0)), .pv (.val (.int .i64 0))]), (1, .parr false a_5 (.str .nil) 1 a_6 (a_7)), (2, .parr false false (.sl (.str .nil) 1 .nil) 1 16 (a_8)), (3, .parr false a_9 (.int .i64 .nil) 1 a_10 (a_11))], nx := 4 }
def ref22_Line_L2_v1_x0 (r0 r1 : Int) (r2 r3 : Bool) (r4 : Nat) (r5 r6 : Nat → Nat → PV) (r7 : Bool) (r8 : Nat) (r9 : Nat → Nat → PV) : St := { n := 110, m := 0, t := [(2, .v (.c (.ptr 0 0))), (3, .v (.c (.own 1))), (4, .v (.c (.own 2))), (5, .v (.c (.pv (.val (.int .i64 r0))))), (6, .v (.c (.own 3))), (7, .v (.c (.pv (.val (.int .u64 r1))))), (8, .v (.c (.pv (.val (.bool r2)))))], h := [(0, .cells false [.pv (.val (.int .i64 0)), .pv (.val (.int .i64 0)), .pv (.val (.int .i64 0)), .pv (.val (.int .i64 0)), .pv (.val (.int .i64 0)), .pv (.val (.int .u8 0)), .pv (.val (.int .u8 0)), .pv (.val (.int .u64 0)), .pv (.val (.int .i64 0))]), (1, .parr false r3 (.str .nil) 1 r4 (r5)), (2, .parr false false (.sl (.str .nil) 1 .nil) 1 16 (r6)), (3, .parr false r7 (.int .i64 .nil) 1 r8 (r9))], nx := 4 }
def ref22_Line_L2_v1_s0 {α : Type} (Gref21_Num : Y29 α) (Gref09_Parse : Y32 α) (rec0 : Int → Int → Bool → Int → Bool → Nat → (Nat → Nat → PV) → (Nat → Nat → PV) → Bool → Nat → (Nat → Nat → PV) → Option α) (k0 : Y12 α) (a_1 a_2 : Int) (a_3 : Bool) (a_4 : Int) (a_5 : Bool) (a_6 : Nat) (a_7 a_8 : Nat → Nat → PV) (a_9 : Bool) (a_10 : Nat) (a_11 : Nat → Nat → PV) : Option α := bif decide (a_4 < (a_6 : Int)) then
  bif inb a_1 16 then
   bif inb a_4 (lenOf (a_8 a_1.toNat 0)) then
    bif ((textOf ((fnOf (a_8 a_1.toNat 0)) a_4.toNat 0)).toList == (⟨#[35]⟩ : ByteArray).toList) then
     bif inb a_4 a_6 then
      Gref21_Num (textOf (a_7 a_4.toNat 0))
       (bif Nat.ble ((a_10 + 1) * 8) bound then
        bif a_3 then
         rec0 a_1 a_2 false (IntKind.i64.wrap (a_4 + 1)) a_5 a_6 a_7 a_8 (a_9 && false) (a_10 + 1) (catf a_10 (a_11) (rowOf 1 [.val (.int .i64 0)]))
        else rec0 a_1 a_2 false (IntKind.i64.wrap (a_4 + 1)) a_5 a_6 a_7 a_8 (a_9 && false) (a_10 + 1) (catf a_10 (a_11) (rowOf 1 [.val (.int .i64 0)]))
       else none /- test -/)
       (fun r_12 => bif Nat.ble ((a_10 + 1) * 8) bound then
        bif a_3 then
         rec0 a_1 a_2 true (IntKind.i64.wrap (a_4 + 1)) a_5 a_6 a_7 a_8 (a_9 && false) (a_10 + 1) (catf a_10 (a_11) (rowOf 1 [.val (.int .i64 r_12)]))
        else rec0 a_1 a_2 false (IntKind.i64.wrap (a_4 + 1)) a_5 a_6 a_7 a_8 (a_9 && false) (a_10 + 1) (catf a_10 (a_11) (rowOf 1 [.val (.int .i64 r_12)]))
       else none /- test -/)
     else none /- test -/
    else bif ((textOf ((fnOf (a_8 a_1.toNat 0)) a_4.toNat 0)).toList == (⟨#[64]⟩ : ByteArray).toList) then
     bif inb a_4 a_6 then
      Gref09_Parse (textOf (a_7 a_4.toNat 0))
       (fun r_12 r_13 => bif a_3 then
        rec0 a_1 r_12 (r_13 == 0) (IntKind.i64.wrap (a_4 + 1)) a_5 a_6 a_7 a_8 a_9 a_10 a_11
       else rec0 a_1 r_12 false (IntKind.i64.wrap (a_4 + 1)) a_5 a_6 a_7 a_8 a_9 a_10 a_11)
     else none /- test -/
    else bif a_3 then
     bif inb a_4 a_6 then
      bif inb a_1 16 then
       bif inb a_4 (lenOf (a_8 a_1.toNat 0)) then
        rec0 a_1 a_2 (e62 a_7 a_4 a_8 a_1) (IntKind.i64.wrap (a_4 + 1)) a_5 a_6 a_7 a_8 a_9 a_10 a_11
       else none /- test -/
      else none /- test -/
     else none /- test -/
    else rec0 a_1 a_2 false (IntKind.i64.wrap (a_4 + 1)) a_5 a_6 a_7 a_8 a_9 a_10 a_11
   else none /- test -/
  else none /- test -/
 else k0 a_1 a_2 a_3 a_5 a_6 a_7 a_8 a_9 a_10 a_11
def ref22_Line_L2_v1_l0 {α : Type} (k0 : Y12 α) : Nat → Int → Int → Bool → Int → Bool → Nat → (Nat → Nat → PV) → (Nat → Nat → PV) → Bool → Nat → (Nat → Nat → PV) → Option α
  | 0 => fun _ _ _ _ _ _ _ _ _ _ _ => none
  | n + 1 => ref22_Line_L2_v1_s0 ref21_Num ref09_Parse (ref22_Line_L2_v1_l0 k0 n) k0
theorem ref22_Line_L2_v1_s0_eq (Gref21_Num : Y29 Out) (Gref09_Parse : Y32 Out) (k : Kont) (n : Nat) (a_1 a_2 : Int) (a_3 : Bool) (a_4 : Int) (a_5 : Bool) (a_6 : Nat) (a_7 a_8 : Nat → Nat → PV) (a_9 : Bool) (a_10 : Nat) (a_11 : Nat → Nat → PV) : loopN (fun st k => exec (ref22_Line_L2_v1_C Gref21_Num Gref09_Parse) (loopBody (codeAt Tryd.f24 2)) st k) [2, 3, 4, 5, 6, 7, 8, 9] (loopK 2 (kn ref22_Line_L2_v1_lo k)) (n + 1) (ref22_Line_L2_v1_h0 a_1 a_2 a_3 a_4 a_5 a_6 a_7 a_8 a_9 a_10 a_11) = ref22_Line_L2_v1_s0 Gref21_Num Gref09_Parse (fun a_1 a_2 a_3 a_4 a_5 a_6 a_7 a_8 a_9 a_10 a_11 => loopN (fun st k => exec (ref22_Line_L2_v1_C Gref21_Num Gref09_Parse) (loopBody (codeAt Tryd.f24 2)) st k) [2, 3, 4, 5, 6, 7, 8, 9] (loopK 2 (kn ref22_Line_L2_v1_lo k)) n (ref22_Line_L2_v1_h0 a_1 a_2 a_3 a_4 a_5 a_6 a_7 a_8 a_9 a_10 a_11)) (fun r0 r1 r2 r3 r4 r5 r6 r7 r8 r9 => k .normal (ref22_Line_L2_v1_x0 r0 r1 r2 r3 r4 r5 r6 r7 r8 r9)) a_1 a_2 a_3 a_4 a_5 a_6 a_7 a_8 a_9 a_10 a_11 := by kernel_rfl
theorem ref22_Line_L2_v1_l0_eq (k : Kont) : ∀ (n : Nat) (a_1 a_2 : Int) (a_3 : Bool) (a_4 : Int) (a_5 : Bool) (a_6 : Nat) (a_7 a_8 : Nat → Nat → PV) (a_9 : Bool) (a_10 : Nat) (a_11 : Nat → Nat → PV), loopN (fun st k => exec (ref22_Line_L2_v1_C ref21_Num ref09_Parse) (loopBody (codeAt Tryd.f24 2)) st k) [2, 3, 4, 5, 6, 7, 8, 9] (loopK 2 (kn ref22_Line_L2_v1_lo k)) n (ref22_Line_L2_v1_h0 a_1 a_2 a_3 a_4 a_5 a_6 a_7 a_8 a_9 a_10 a_11) = ref22_Line_L2_v1_l0 (fun r0 r1 r2 r3 r4 r5 r6 r7 r8 r9 => k .normal (ref22_Line_L2_v1_x0 r0 r1 r2 r3 r4 r5 r6 r7 r8 r9)) n a_1 a_2 a_3 a_4 a_5 a_6 a_7 a_8 a_9 a_10 a_11
  | 0, _, _, _, _, _, _, _, _, _, _, _ => rfl
  | n + 1, a_1, a_2, a_3, a_4, a_5, a_6, a_7, a_8, a_9, a_10, a_11 => by
    have r0 : (fun a_1 a_2 a_3 a_4 a_5 a_6 a_7 a_8 a_9 a_10 a_11 => loopN (fun st k => exec (ref22_Line_L2_v1_C ref21_Num ref09_Parse) (loopBody (codeAt Tryd.f24 2)) st k) [2, 3, 4, 5, 6, 7, 8, 9] (loopK 2 (kn ref22_Line_L2_v1_lo k)) n (ref22_Line_L2_v1_h0 a_1 a_2 a_3 a_4 a_5 a_6 a_7 a_8 a_9 a_10 a_11)) = ref22_Line_L2_v1_l0 (fun r0 r1 r2 r3 r4 r5 r6 r7 r8 r9 => k .normal (ref22_Line_L2_v1_x0 r0 r1 r2 r3 r4 r5 r6 r7 r8 r9)) n := funext fun a_1 => funext fun a_2 => funext fun a_3 => funext fun a_4 => funext fun a_5 => funext fun a_6 => funext fun a_7 => funext fun a_8 => funext fun a_9 => funext fun a_10 => funext fun a_11 => ref22_Line_L2_v1_l0_eq k n a_1 a_2 a_3 a_4 a_5 a_6 a_7 a_8 a_9 a_10 a_11
    exact (ref22_Line_L2_v1_s0_eq ref21_Num ref09_Parse k n a_1 a_2 a_3 a_4 a_5 a_6 a_7 a_8 a_9 a_10 a_11).trans (by rw [r0]; rfl)
def ref22_Line_L2_v1 {α : Type} (a_1 : Int) (a_2 : Bool) (a_3 : Nat) (a_4 a_5 a_6 : Nat → Nat → PV) (k0 : Y12 α) : Option α := ref22_Line_L2_v1_l0 k0 18446744073709551616 a_1 0 true 0 a_2 a_3 a_4 a_5 true 0 a_6
def ref22_Line_L2_v1_e (a_1 : Int) (a_2 : Bool) (a_3 : Nat) (a_4 a_5 a_6 : Nat → Nat → PV) : St := { n := 110, m := 0, t := [(2, .v (.c (.ptr 0 0))), (3, .v (.c (.own 1))), (4, .v (.c (.own 2))), (5, .v (.c (.pv (.val (.int .i64 a_1))))), (6, .v (.c (.own 3))), (7, .v (.c (.pv (.val (.int .u64 0))))), (8, .v (.c (.pv (.val (.bool true))))), (9, .v (.c (.pv (.val (.int .i64 0)))))], h := [(0, .cells false [.pv (.val (.int .i64 0)), .pv (.val (.int .i64 0)), .pv (.val (.int .i64 0)), .pv (.val (.int .i64 0)), .pv (.val (.int .i64 0)), .pv (.val (.int .u8 0)), .pv (.val (.int .u8 0)), .pv (.val (.int .u64 0)), .pv (.val (.int .i64 0))]), (1, .parr false a_2 (.str .nil) 1 a_3 (a_4)), (2, .parr false false (.sl (.str .nil) 1 .nil) 1 16 (a_5)), (3, .parr false true (.int .i64 .nil) 1 0 (a_6))], nx := 4 }
theorem ref22_Line_L2_v1_eq (a_1 : Int) (a_2 : Bool) (a_3 : Nat) (a_4 a_5 a_6 : Nat → Nat → PV) (k : Kont) : exec (ref22_Line_L2_v1_C ref21_Num ref09_Parse) (codeAt Tryd.f24 2) (ref22_Line_L2_v1_e a_1 a_2 a_3 a_4 a_5 a_6) (kn ref22_Line_L2_v1_lo k) = ref22_Line_L2_v1 a_1 a_2 a_3 a_4 a_5 a_6 (fun r0 r1 r2 r3 r4 r5 r6 r7 r8 r9 => k .normal (ref22_Line_L2_v1_x0 r0 r1 r2 r3 r4 r5 r6 r7 r8 r9)) :=
  (by kernel_rfl : _ = loopN (fun st k => exec (ref22_Line_L2_v1_C ref21_Num ref09_Parse) (loopBody (codeAt Tryd.f24 2)) st k) [2, 3, 4, 5, 6, 7, 8, 9] (loopK 2 (kn ref22_Line_L2_v1_lo k)) 18446744073709551616 (ref22_Line_L2_v1_h0 a_1 0 true 0 a_2 a_3 a_4 a_5 true 0 a_6)).trans (ref22_Line_L2_v1_l0_eq k 18446744073709551616 a_1 0 true 0 a_2 a_3 a_4 a_5 true 0 a_6)
def ref22_Line_L2_v1_p : PSt := { n := 110, m := 0, t := [(2, .v (.c (.ptr 0 0))), (3, .v (.c (.own 1))), (4, .v (.c (.own 2))), (5, .v (.c (.pv (.int .i64 .h)))), (6, .v (.c (.own 3))), (7, .v (.c (.pv (.int .u64 (.l 0))))), (8, .v (.c (.pv (.bool (.l true))))), (9, .v (.c (.pv (.int .i64 (.l 0)))))], h := [(0, .cells (.l false) [.pv (.int .i64 (.l 0)), .pv (.int .i64 (.l 0)), .pv (.int .i64 (.l 0)), .pv (.int .i64 (.l 0)), .pv (.int .i64 (.l 0)), .pv (.int .u8 (.l 0)), .pv (.int .u8 (.l 0)), .pv (.int .u64 (.l 0)), .pv (.int .i64 (.l 0))]), (1, .parr (.l false) .h (.str .nil) 1 .h), (2, .parr (.l false) (.l false) (.sl (.str .nil) 1 .nil) 1 (.l 16)), (3, .parr (.l false) (.l true) (.int .i64 .nil) 1 (.l 0))], nx := 4 }
def ref22_Line_L2_v1_F (h : List Hole) (k : Kont) : Option Out := ref22_Line_L2_v1 (gI h 0) (gB h 1) (gN h 2) (gF h 3) (gF h 4) (gF h 5) (fun r0 r1 r2 r3 r4 r5 r6 r7 r8 r9 => k .normal (ref22_Line_L2_v1_x0 r0 r1 r2 r3 r4 r5 r6 r7 r8 r9))
theorem ref22_Line_L2_v1_at (h : List Hole) : BodyAt Tryd.prog (codeAt Tryd.f24 2) (stFill ref22_Line_L2_v1_p h) (ref22_Line_L2_v1_F h) := by
  have e : stFill ref22_Line_L2_v1_p h = ref22_Line_L2_v1_e (gI h 0) (gB h 1) (gN h 2) (gF h 3) (gF h 4) (gF h 5) := by kernel_rfl
  rw [e]; exact bodyAt_of (C := ref22_Line_L2_v1_C ref21_Num ref09_Parse) ⟨ttOk, eqOk, runS_ok ttOk eqOk mixed (names_ok namesOk) (S := ref22_Line_L2_v1_S ref21_Num ref09_Parse) (sums_cons yes22_ok (sums_cons itoa_ok (sums_cons num_ok (sums_cons idx_ok (sums_cons join_ok (sums_cons split_ok (sums_cons (smOf_ok (alts_cons ref21_Num_at alts_nil)) (sums_cons (smOf_ok (alts_cons ref09_Parse_at alts_nil)) (sums_nil))))))))) (B := ref22_Line_L2_v1_B ref21_Num ref09_Parse) (hooks_nil) opts 40⟩ mixed (hooked_in (by kernel_rfl) blk_nil 2) fun k => ref22_Line_L2_v1_eq _ _ _ _ _ _ k
def e63 (x0 : Int) : Int := numOf ((rowOf 1 [.val (.int .i64 1), .val (.int .i64 2), .val (.int .i64 3)]) x0.toNat 0)
/- weirgate/weirgateref22.made -/
def ref22_made_T {α : Type}  (a_1 a_2 : Int) (a_3 : Bool) (a_4 : Nat) (a_5 : Nat → Nat → PV) (k0 : Y17 α) : Option α := bif (a_1 == 0) then
  bif inb a_1 3 then
   bif inb 0 a_4 then
    k0 1 (e63 a_1) 0 (numOf (a_5 0 0)) 0 0 0 0 true a_3 a_4 a_5
   else none /- test -/
  else none /- test -/
 else bif (a_1 == 1) then
  bif inb a_1 3 then
   bif inb 0 a_4 then
    k0 1 (e63 a_1) 0 (numOf (a_5 0 0)) 0 0 0 0 true a_3 a_4 a_5
   else none /- test -/
  else none /- test -/
 else bif (a_1 == 2) then
  bif inb a_1 3 then
   bif inb 0 a_4 then
    k0 1 (e63 a_1) 0 (numOf (a_5 0 0)) 0 0 0 0 true a_3 a_4 a_5
   else none /- test -/
  else none /- test -/
 else bif (a_1 == 3) then
  bif inb 0 a_4 then
   bif decide ((numOf (a_5 0 0)) ≤ 255) then
    k0 1 4 (numOf (a_5 0 0)) 1 0 0 0 0 true a_3 a_4 a_5
   else k0 1 4 (numOf (a_5 0 0)) 1 0 0 0 0 false a_3 a_4 a_5
  else none /- test -/
 else bif (a_1 == 4) then
  bif inb 0 a_4 then
   bif decide ((numOf (a_5 0 0)) ≤ 255) then
    k0 1 4 (numOf (a_5 0 0)) 0 0 0 0 0 true a_3 a_4 a_5
   else k0 1 4 (numOf (a_5 0 0)) 0 0 0 0 0 false a_3 a_4 a_5
  else none /- test -/
 else bif (a_1 == 5) then
  bif inb 0 a_4 then
   bif inb 1 a_4 then
    bif decide ((numOf (a_5 0 0)) ≤ 255) then
     k0 1 5 (numOf (a_5 0 0)) (numOf (a_5 1 0)) 0 0 0 0 true a_3 a_4 a_5
    else k0 1 5 (numOf (a_5 0 0)) (numOf (a_5 1 0)) 0 0 0 0 false a_3 a_4 a_5
   else none /- test -/
  else none /- test -/
 else bif (a_1 == 6) then
  bif inb 0 a_4 then
   bif inb 1 a_4 then
    bif decide ((numOf (a_5 0 0)) ≤ 255) then
     k0 1 6 (numOf (a_5 0 0)) (numOf (a_5 1 0)) 0 0 0 0 true a_3 a_4 a_5
    else k0 1 6 (numOf (a_5 0 0)) (numOf (a_5 1 0)) 0 0 0 0 false a_3 a_4 a_5
   else none /- test -/
  else none /- test -/
 else bif (a_1 == 7) then
  bif inb 1 a_4 then
   bif decide ((numOf (a_5 1 0)) > 255) then
    k0 0 0 0 0 0 0 0 0 false a_3 a_4 a_5
   else bif inb 2 a_4 then
    bif decide ((numOf (a_5 2 0)) > 255) then
     k0 0 0 0 0 0 0 0 0 false a_3 a_4 a_5
    else bif inb 0 a_4 then
     bif inb 1 a_4 then
      bif inb 2 a_4 then
       k0 1 7 0 0 (numOf (a_5 0 0)) (IntKind.u8.wrap (numOf (a_5 1 0))) (IntKind.u8.wrap (numOf (a_5 2 0))) 0 (decide ((numOf (a_5 0 0)) ≤ 65535)) a_3 a_4 a_5
      else none /- test -/
     else none /- test -/
    else none /- test -/
   else none /- test -/
  else none /- test -/
 else bif (a_1 == 8) then
  bif inb 0 a_4 then
   k0 1 8 0 0 (numOf (a_5 0 0)) 0 0 0 (decide ((numOf (a_5 0 0)) ≤ 65535)) a_3 a_4 a_5
  else none /- test -/
 else bif (a_1 == 9) then
  bif inb 0 a_4 then
   bif inb 1 a_4 then
    bif decide ((numOf (a_5 1 0)) ≤ 255) then
     k0 1 9 (numOf (a_5 1 0)) 0 (numOf (a_5 0 0)) 0 0 a_2 (decide ((numOf (a_5 0 0)) ≤ 65535)) a_3 a_4 a_5
    else k0 1 9 (numOf (a_5 1 0)) 0 (numOf (a_5 0 0)) 0 0 a_2 false a_3 a_4 a_5
   else none /- test -/
  else none /- test -/
 else bif (a_1 == 10) then
  bif inb 0 a_4 then
   k0 1 10 0 0 (numOf (a_5 0 0)) 0 0 a_2 (decide ((numOf (a_5 0 0)) ≤ 65535)) a_3 a_4 a_5
  else none /- test -/
 else k0 (IntKind.i64.wrap (a_1 - 9)) 0 0 0 0 0 0 0 true a_3 a_4 a_5
def ref22_made {α : Type} (a_1 a_2 : Int) (a_3 : Bool) (a_4 : Nat) (a_5 : Nat → Nat → PV) (k0 : Y17 α) : Option α := ref22_made_T  a_1 a_2 a_3 a_4 a_5 k0
def ref22_made_S  : List (Nat × Sm) := [(22, yes), (34, itoaSm), (13, numSm), (94, idxSm), (33, joinSm), (52, splitSm)]
def ref22_made_B  : Hooks := []
theorem ref22_made_eq  (a_1 a_2 : Int) (a_3 : Bool) (a_4 : Nat) (a_5 : Nat → Nat → PV) (k : FK) : runS tt (has eql) Tryd.prog.funcs 18446744073709551616 (ref22_made_S ) (ref22_made_B ) opts 40 39 [.v (.c (.pv (.val (.int .i64 a_1)))), .v (.c (.own 0)), .v (.c (.pv (.val (.int .u64 a_2))))] [.parr false a_3 (.int .i64 .nil) 1 a_4 (a_5)] k = ref22_made_T  a_1 a_2 a_3 a_4 a_5 (fun r0 r1 r2 r3 r4 r5 r6 r7 r8 r9 r10 r11 => k (.tup [.agg [.pv (.val (.int .i64 r0)), .pv (.val (.int .i64 r1)), .pv (.val (.int .i64 r2)), .pv (.val (.int .i64 r3)), .pv (.val (.int .i64 r4)), .pv (.val (.int .u8 r5)), .pv (.val (.int .u8 r6)), .pv (.val (.int .u64 r7))], .c (.pv (.val (.bool r8)))]) [.parr false r9 (.int .i64 .nil) 1 r10 (r11)]) := by kernel_rfl
def ref22_made_p : PAr := ⟨[.v (.c (.pv (.int .i64 .h))), .v (.c (.own 0)), .v (.c (.pv (.int .u64 .h)))], [.parr (.l false) .h (.int .i64 .nil) 1 .h]⟩
def ref22_made_F (h : List Hole) (k : FK) : Option Out := ref22_made (gI h 0) (gI h 1) (gB h 2) (gN h 3) (gF h 4) (fun r0 r1 r2 r3 r4 r5 r6 r7 r8 r9 r10 r11 => k (.tup [.agg [.pv (.val (.int .i64 r0)), .pv (.val (.int .i64 r1)), .pv (.val (.int .i64 r2)), .pv (.val (.int .i64 r3)), .pv (.val (.int .i64 r4)), .pv (.val (.int .u8 r5)), .pv (.val (.int .u8 r6)), .pv (.val (.int .u64 r7))], .c (.pv (.val (.bool r8)))]) [.parr false r9 (.int .i64 .nil) 1 r10 (r11)])
theorem ref22_made_at (h : List Hole) : CallAt Tryd.prog 39 (arFill ref22_made_p h).1 (arFill ref22_made_p h).2 (ref22_made_F h) := by
  have e : arFill ref22_made_p h = ([.v (.c (.pv (.val (.int .i64 (gI h 0))))), .v (.c (.own 0)), .v (.c (.pv (.val (.int .u64 (gI h 1)))))], [.parr false (gB h 2) (.int .i64 .nil) 1 (gN h 3) ((gF h 4))]) := by kernel_rfl
  rw [e]; exact callAt_of (runS_ok ttOk eqOk mixed (names_ok namesOk) (S := ref22_made_S ) (sums_cons yes22_ok (sums_cons itoa_ok (sums_cons num_ok (sums_cons idx_ok (sums_cons join_ok (sums_cons split_ok (sums_nil))))))) (B := ref22_made_B ) (hooks_nil) opts 40) fun k => ref22_made_eq  _ _ _ _ _ k
/- weirgate/weirgateref22.Line: loop 0 -/
def ref22_Line_L0_S (Gref22_Line_L2_v1 : Y4 Out) (Gref22_made : Y7 Out) : List (Nat × Sm) := [(22, yes), (34, itoaSm), (13, numSm), (94, idxSm), (33, joinSm), (52, splitSm), (39, smOf [(ref22_made_p, fun h k => Gref22_made (gI h 0) (gI h 1) (gB h 2) (gN h 3) (gF h 4) (fun r0 r1 r2 r3 r4 r5 r6 r7 r8 r9 r10 r11 => k (.tup [.agg [.pv (.val (.int .i64 r0)), .pv (.val (.int .i64 r1)), .pv (.val (.int .i64 r2)), .pv (.val (.int .i64 r3)), .pv (.val (.int .i64 r4)), .pv (.val (.int .u8 r5)), .pv (.val (.int .u8 r6)), .pv (.val (.int .u64 r7))], .c (.pv (.val (.bool r8)))]) [.parr false r9 (.int .i64 .nil) 1 r10 (r11)]))])]
def ref22_Line_L0_B (Gref22_Line_L2_v1 : Y4 Out) (Gref22_made : Y7 Out) : Hooks := []
noncomputable def ref22_Line_L0_C (Gref22_Line_L2_v1 : Y4 Out) (Gref22_made : Y7 Out) : Ctx := { tt := tt, eqs := has eql, call := runS tt (has eql) Tryd.prog.funcs 18446744073709551616 (ref22_Line_L0_S Gref22_Line_L2_v1 Gref22_made) (ref22_Line_L0_B Gref22_Line_L2_v1 Gref22_made) opts 40, fuel := 18446744073709551616, blk := fun i => aget [(2, hookG [2, 3, 4, 5, 6, 7, 8, 9] [(6, (.int .i64 .nil), 1)] (bkOf [(ref22_Line_L2_v1_p, fun h k => Gref22_Line_L2_v1 (gI h 0) (gB h 1) (gN h 2) (gF h 3) (gF h 4) (gF h 5) (fun r0 r1 r2 r3 r4 r5 r6 r7 r8 r9 => k .normal (ref22_Line_L2_v1_x0 r0 r1 r2 r3 r4 r5 r6 r7 r8 r9))), (ref22_Line_L2_p, ref22_Line_L2_F)]))] i, bor := opts.bor }
def ref22_Line_L0_lo : Vx → List Nat := fun | .normal => [2] | .exit j => (fun _ => []) j | .ret => [2]
def ref22_Line_L0_h0 (a_1 : Int) (a_2 : Bool) (a_3 : Nat) (a_4 a_5 : Nat → Nat → PV) : St := { n := 110, m := 0, t := [(2, .v (.c (.ptr 0 0))), (3, .v (.c (.own 1))), (4, .v (.c (.own 2))), (5, .v (.c (.pv (.val (.int .i64 a_1)))))], h := [(0, .cells false [.pv (.val (.int .i64 0)), .pv (.val (.int .i64 0)), .pv (.val (.int .i64 0)), .pv (.val (.int .i64 0)), .pv (.val (.int .i64 0)), .pv (.val (.int .u8 0)), .pv (.val (.int .u8 0)), .pv (.val (.int .u64 0)), .pv (.val (.int .i64 0))]), (1, .parr false a_2 (.str .nil) 1 a_3 (a_4)), (2, .parr false false (.sl (.str .nil) 1 .nil) 1 16 (a_5))], nx := 3 }
def ref22_Line_L0_x0 (r0 r1 r2 r3 r4 r5 r6 r7 : Int) : St := { n := 110, m := 0, t := [(2, .v (.c (.ptr 0 0)))], h := [(0, .cells false [.pv (.val (.int .i64 r0)), .pv (.val (.int .i64 r1)), .pv (.val (.int .i64 r2)), .pv (.val (.int .i64 r3)), .pv (.val (.int .i64 r4)), .pv (.val (.int .u8 r5)), .pv (.val (.int .u8 r6)), .pv (.val (.int .u64 r7)), .pv (.val (.int .i64 0))])], nx := 1 }
def ref22_Line_L0_x1  : St := { n := 110, m := 0, t := [(2, .v (.c (.ptr 0 0)))], h := [(0, .cells false [.pv (.val (.int .i64 0)), .pv (.val (.int .i64 0)), .pv (.val (.int .i64 0)), .pv (.val (.int .i64 0)), .pv (.val (.int .i64 0)), .pv (.val (.int .u8 0)), .pv (.val (.int .u8 0)), .pv (.val (.int .u64 0)), .pv (.val (.int .i64 0))])], nx := 1 }
def ref22_Line_L0_s0 {α : Type} (Gref22_Line_L2_v1 : Y4 α) (Gref22_made : Y7 α) (rec0 : Int → Bool → Nat → (Nat → Nat → PV) → (Nat → Nat → PV) → Option α) (k0 : Y30 α) (k1 : Option α) (a_1 : Int) (a_2 : Bool) (a_3 : Nat) (a_4 a_5 : Nat → Nat → PV) : Option α := bif decide (a_1 < 16) then
  bif inb a_1 16 then
   bif (((lenOf (a_5 a_1.toNat 0) : Nat) : Int) != (a_3 : Int)) then
    rec0 (IntKind.i64.wrap (a_1 + 1)) a_2 a_3 a_4 a_5
   else Gref22_Line_L2_v1 a_1 a_2 a_3 a_4 a_5 (fun _ _ => .val undef)
    (fun r_6 r_7 r_8 r_9 r_10 r_11 r_12 r_13 r_14 r_15 => bif !r_8 then
     rec0 (IntKind.i64.wrap (r_6 + 1)) r_9 r_10 r_11 r_12
    else Gref22_made r_6 r_7 r_13 r_14 r_15
     (fun r_16 r_17 r_18 r_19 r_20 r_21 r_22 r_23 r_24 r_25 r_26 r_27 => bif r_24 then
      k0 r_16 r_17 r_18 r_19 r_20 r_21 r_22 r_23
     else rec0 (IntKind.i64.wrap (r_6 + 1)) r_9 r_10 r_11 r_12))
  else none /- test -/
 else k1
def ref22_Line_L0_l0 {α : Type} (k0 : Y30 α) (k1 : Option α) : Nat → Int → Bool → Nat → (Nat → Nat → PV) → (Nat → Nat → PV) → Option α
  | 0 => fun _ _ _ _ _ => none
  | n + 1 => ref22_Line_L0_s0 ref22_Line_L2_v1 ref22_made (ref22_Line_L0_l0 k0 k1 n) k0 k1
theorem ref22_Line_L0_s0_eq (Gref22_Line_L2_v1 : Y4 Out) (Gref22_made : Y7 Out) (k : Kont) (n : Nat) (a_1 : Int) (a_2 : Bool) (a_3 : Nat) (a_4 a_5 : Nat → Nat → PV) : loopN (fun st k => exec (ref22_Line_L0_C Gref22_Line_L2_v1 Gref22_made) (loopBody (codeAt Tryd.f24 0)) st k) [2, 3, 4, 5] (loopK 0 (kn ref22_Line_L0_lo k)) (n + 1) (ref22_Line_L0_h0 a_1 a_2 a_3 a_4 a_5) = ref22_Line_L0_s0 Gref22_Line_L2_v1 Gref22_made (fun a_1 a_2 a_3 a_4 a_5 => loopN (fun st k => exec (ref22_Line_L0_C Gref22_Line_L2_v1 Gref22_made) (loopBody (codeAt Tryd.f24 0)) st k) [2, 3, 4, 5] (loopK 0 (kn ref22_Line_L0_lo k)) n (ref22_Line_L0_h0 a_1 a_2 a_3 a_4 a_5)) (fun r0 r1 r2 r3 r4 r5 r6 r7 => k .ret (ref22_Line_L0_x0 r0 r1 r2 r3 r4 r5 r6 r7)) (k .normal (ref22_Line_L0_x1)) a_1 a_2 a_3 a_4 a_5 := by kernel_rfl
theorem ref22_Line_L0_l0_eq (k : Kont) : ∀ (n : Nat) (a_1 : Int) (a_2 : Bool) (a_3 : Nat) (a_4 a_5 : Nat → Nat → PV), loopN (fun st k => exec (ref22_Line_L0_C ref22_Line_L2_v1 ref22_made) (loopBody (codeAt Tryd.f24 0)) st k) [2, 3, 4, 5] (loopK 0 (kn ref22_Line_L0_lo k)) n (ref22_Line_L0_h0 a_1 a_2 a_3 a_4 a_5) = ref22_Line_L0_l0 (fun r0 r1 r2 r3 r4 r5 r6 r7 => k .ret (ref22_Line_L0_x0 r0 r1 r2 r3 r4 r5 r6 r7)) (k .normal (ref22_Line_L0_x1)) n a_1 a_2 a_3 a_4 a_5
  | 0, _, _, _, _, _ => rfl
  | n + 1, a_1, a_2, a_3, a_4, a_5 => by
    have r0 : (fun a_1 a_2 a_3 a_4 a_5 => loopN (fun st k => exec (ref22_Line_L0_C ref22_Line_L2_v1 ref22_made) (loopBody (codeAt Tryd.f24 0)) st k) [2, 3, 4, 5] (loopK 0 (kn ref22_Line_L0_lo k)) n (ref22_Line_L0_h0 a_1 a_2 a_3 a_4 a_5)) = ref22_Line_L0_l0 (fun r0 r1 r2 r3 r4 r5 r6 r7 => k .ret (ref22_Line_L0_x0 r0 r1 r2 r3 r4 r5 r6 r7)) (k .normal (ref22_Line_L0_x1)) n := funext fun a_1 => funext fun a_2 => funext fun a_3 => funext fun a_4 => funext fun a_5 => ref22_Line_L0_l0_eq k n a_1 a_2 a_3 a_4 a_5
    exact (ref22_Line_L0_s0_eq ref22_Line_L2_v1 ref22_made k n a_1 a_2 a_3 a_4 a_5).trans (by rw [r0]; rfl)
def ref22_Line_L0 {α : Type} (a_1 : Bool) (a_2 : Nat) (a_3 a_4 : Nat → Nat → PV) (k0 : Y30 α) (k1 : Option α) : Option α := ref22_Line_L0_l0 k0 k1 18446744073709551616 0 a_1 a_2 a_3 a_4
def ref22_Line_L0_e (a_1 : Bool) (a_2 : Nat) (a_3 a_4 : Nat → Nat → PV) : St := { n := 110, m := 0, t := [(2, .v (.c (.ptr 0 0))), (3, .v (.c (.own 1))), (4, .v (.c (.own 2))), (5, .v (.c (.pv (.val (.int .i64 0)))))], h := [(0, .cells false [.pv (.val (.int .i64 0)), .pv (.val (.int .i64 0)), .pv (.val (.int .i64 0)), .pv (.val (.int .i64 0)), .pv (.val (.int .i64 0)), .pv (.val (.int .u8 0)), .pv (.val (.int .u8 0)), .pv (.val (.int .u64 0)), .pv (.val (.int .i64 0))]), (1, .parr false a_1 (.str .nil) 1 a_2 (a_3)), (2, .parr false false (.sl (.str .nil) 1 .nil) 1 16 (a_4))], nx := 3 }
theorem ref22_Line_L0_eq (a_1 : Bool) (a_2 : Nat) (a_3 a_4 : Nat → Nat → PV) (k : Kont) : exec (ref22_Line_L0_C ref22_Line_L2_v1 ref22_made) (codeAt Tryd.f24 0) (ref22_Line_L0_e a_1 a_2 a_3 a_4) (kn ref22_Line_L0_lo k) = ref22_Line_L0 a_1 a_2 a_3 a_4 (fun r0 r1 r2 r3 r4 r5 r6 r7 => k .ret (ref22_Line_L0_x0 r0 r1 r2 r3 r4 r5 r6 r7)) (k .normal (ref22_Line_L0_x1)) :=
  (by kernel_rfl : _ = loopN (fun st k => exec (ref22_Line_L0_C ref22_Line_L2_v1 ref22_made) (loopBody (codeAt Tryd.f24 0)) st k) [2, 3, 4, 5] (loopK 0 (kn ref22_Line_L0_lo k)) 18446744073709551616 (ref22_Line_L0_h0 0 a_1 a_2 a_3 a_4)).trans (ref22_Line_L0_l0_eq k 18446744073709551616 0 a_1 a_2 a_3 a_4)
def ref22_Line_L0_p : PSt := { n := 110, m := 0, t := [(2, .v (.c (.ptr 0 0))), (3, .v (.c (.own 1))), (4, .v (.c (.own 2))), (5, .v (.c (.pv (.int .i64 (.l 0)))))], h := [(0, .cells (.l false) [.pv (.int .i64 (.l 0)), .pv (.int .i64 (.l 0)), .pv (.int .i64 (.l 0)), .pv (.int .i64 (.l 0)), .pv (.int .i64 (.l 0)), .pv (.int .u8 (.l 0)), .pv (.int .u8 (.l 0)), .pv (.int .u64 (.l 0)), .pv (.int .i64 (.l 0))]), (1, .parr (.l false) .h (.str .nil) 1 .h), (2, .parr (.l false) (.l false) (.sl (.str .nil) 1 .nil) 1 (.l 16))], nx := 3 }
def ref22_Line_L0_F (h : List Hole) (k : Kont) : Option Out := ref22_Line_L0 (gB h 0) (gN h 1) (gF h 2) (gF h 3) (fun r0 r1 r2 r3 r4 r5 r6 r7 => k .ret (ref22_Line_L0_x0 r0 r1 r2 r3 r4 r5 r6 r7)) (k .normal (ref22_Line_L0_x1))
theorem ref22_Line_L0_at (h : List Hole) : BodyAt Tryd.prog (codeAt Tryd.f24 0) (stFill ref22_Line_L0_p h) (ref22_Line_L0_F h) := by
  have e : stFill ref22_Line_L0_p h = ref22_Line_L0_e (gB h 0) (gN h 1) (gF h 2) (gF h 3) := by kernel_rfl
  rw [e]; exact bodyAt_of (C := ref22_Line_L0_C ref22_Line_L2_v1 ref22_made) ⟨ttOk, eqOk, runS_ok ttOk eqOk mixed (names_ok namesOk) (S := ref22_Line_L0_S ref22_Line_L2_v1 ref22_made) (sums_cons yes22_ok (sums_cons itoa_ok (sums_cons num_ok (sums_cons idx_ok (sums_cons join_ok (sums_cons split_ok (sums_cons (smOf_ok (alts_cons ref22_made_at alts_nil)) (sums_nil)))))))) (B := ref22_Line_L0_B ref22_Line_L2_v1 ref22_made) (hooks_nil) opts 40⟩ mixed (hooked_in (by kernel_rfl) (blk_cons (bkOf_ok (blts_cons ref22_Line_L2_v1_at (blts_cons ref22_Line_L2_at blts_nil))) blk_nil) 0) fun k => ref22_Line_L0_eq _ _ _ _ k
end Go.Proofs.YtijabmpcicddbaaDoor.ParseTexts

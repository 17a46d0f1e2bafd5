/- MacOrder: what the code comes to answers true: plain numbers and texts, no program in sight. -/
import Derived.Test.YtampnnhdgnhjaaaDoorMacOrderU
set_option linter.unusedVariables false
set_option linter.unusedSimpArgs false
namespace Go.Proofs.YtampnnhdgnhjaaaDoor.MacOrder
open Go.Ve
def H (n : Nat) : UInt8 := ([48, 49, 50, 51, 52, 53, 54, 55, 56, 57, 97, 98, 99, 100, 101, 102] : List UInt8).getD n 0
def pa (B : Int) : ByteArray := (⟨#[48, 49, 50, 51, 52, 53, 54, 55, 56, 57, 97, 98, 99, 100, 101, 102]⟩ : ByteArray).extract ((shrI .u8 B 4).toNat) (((shrI .u8 B 4).toNat) + (((IntKind.u8.wrap ((shrI .u8 B 4) + 1)).toNat) - ((shrI .u8 B 4).toNat)))
def pb (B : Int) : ByteArray := (⟨#[48, 49, 50, 51, 52, 53, 54, 55, 56, 57, 97, 98, 99, 100, 101, 102]⟩ : ByteArray).extract ((bits .and .u8 B 15).toNat) (((bits .and .u8 B 15).toNat) + (((IntKind.u8.wrap ((bits .and .u8 B 15) + 1)).toNat) - ((bits .and .u8 B 15).toNat)))
def tst (n : Nat) : Bool := inb (IntKind.u8.wrap ((shrI .u8 (n : Int) 4) + 1)) 17 && ((decide (0 ≤ shrI .u8 (n : Int) 4) && decide (shrI .u8 (n : Int) 4 ≤ IntKind.u8.wrap ((shrI .u8 (n : Int) 4) + 1))) && (inb (IntKind.u8.wrap ((bits .and .u8 (n : Int) 15) + 1)) 17 && ((decide (0 ≤ bits .and .u8 (n : Int) 15) && decide (bits .and .u8 (n : Int) 15 ≤ IntKind.u8.wrap ((bits .and .u8 (n : Int) 15) + 1))) && (Nat.ble ((pa n).size + (pb n).size) 4611686018427387904 && (pa n ++ pb n).data.toList == [H (n / 16), H (n % 16)]))))
theorem all256 : ((List.range 256).all tst) = true := by kernel_rfl
structure Byte (B : Int) (n : Nat) : Prop where
  c1 : inb (IntKind.u8.wrap ((shrI .u8 B 4) + 1)) 17 = true
  c2 : (decide (0 ≤ shrI .u8 B 4) && decide (shrI .u8 B 4 ≤ IntKind.u8.wrap ((shrI .u8 B 4) + 1))) = true
  c3 : inb (IntKind.u8.wrap ((bits .and .u8 B 15) + 1)) 17 = true
  c4 : (decide (0 ≤ bits .and .u8 B 15) && decide (bits .and .u8 B 15 ≤ IntKind.u8.wrap ((bits .and .u8 B 15) + 1))) = true
  c5 : Nat.ble ((pa B).size + (pb B).size) 4611686018427387904 = true
  p : (pa B ++ pb B).data.toList = [H (n / 16), H (n % 16)]
theorem byte_ok {B : Int} {n : Nat} (e : B = (n : Int)) (h : n < 256) : Byte B n := by
  subst e
  have := List.all_eq_true.1 all256 n (List.mem_range.2 h)
  simp only [tst, Bool.and_eq_true] at this
  obtain ⟨h1, h2, h3, h4, h5, h6⟩ := this
  exact ⟨h1, by simpa using h2, h3, by simpa using h4, h5, by simpa using h6⟩
def b5 (X : Nat) : Nat := X / 1099511627776 % 256
def b4 (X : Nat) : Nat := X / 4294967296 % 256
def b3 (X : Nat) : Nat := X / 16777216 % 256
def b2 (X : Nat) : Nat := X / 65536 % 256
def b1 (X : Nat) : Nat := X / 256 % 256
def b0' (X : Nat) : Nat := X % 256
def tl (X : Nat) : List UInt8 := [H (b5 X / 16), H (b5 X % 16), 58, H (b4 X / 16), H (b4 X % 16), 58, H (b3 X / 16), H (b3 X % 16), 58, H (b2 X / 16), H (b2 X % 16), 58, H (b1 X / 16), H (b1 X % 16), 58, H (b0' X / 16), H (b0' X % 16)]
theorem w40 (X : Nat) : IntKind.u8.wrap (shrI .u64 (X : Int) 40) = ((b5 X : Nat) : Int) := by rw [b40]; unfold b5; omega
theorem w32 (X : Nat) : IntKind.u8.wrap (shrI .u64 (X : Int) 32) = ((b4 X : Nat) : Int) := by rw [b32]; unfold b4; omega
theorem w24 (X : Nat) : IntKind.u8.wrap (shrI .u64 (X : Int) 24) = ((b3 X : Nat) : Int) := by rw [b24]; unfold b3; omega
theorem w16 (X : Nat) : IntKind.u8.wrap (shrI .u64 (X : Int) 16) = ((b2 X : Nat) : Int) := by rw [b16]; unfold b2; omega
theorem w8 (X : Nat) : IntKind.u8.wrap (shrI .u64 (X : Int) 8) = ((b1 X : Nat) : Int) := by rw [b8]; unfold b1; omega
theorem w0 (X : Nat) : IntKind.u8.wrap (shrI .u64 (X : Int) 0) = ((b0' X : Nat) : Int) := by rw [Ve.b0]; unfold b0'; omega
theorem text_ex (X : Nat) (hX : X < 281474976710656) (α : Type) (k0 : Option α) (k1 : ByteArray → Option α) : mac_Text (X : Int) k0 k1 = k1 ⟨(tl X).toArray⟩ := by
  have f5 := byte_ok (w40 X) (by unfold b5; omega)
  have f4 := byte_ok (w32 X) (by unfold b4; omega)
  have f3 := byte_ok (w24 X) (by unfold b3; omega)
  have f2 := byte_ok (w16 X) (by unfold b2; omega)
  have f1 := byte_ok (w8 X) (by unfold b1; omega)
  have f0 := byte_ok (w0 X) (by unfold b0'; omega)
  have s5 : Nat.ble ((e1 X).size + (e2 X).size) 4611686018427387904 = true := f5.c5
  have s4 : Nat.ble ((e3 X).size + (e4 X).size) 4611686018427387904 = true := f4.c5
  have s3 : Nat.ble ((e6 X).size + (e7 X).size) 4611686018427387904 = true := f3.c5
  have s2 : Nat.ble ((e8 X).size + (e9 X).size) 4611686018427387904 = true := f2.c5
  have s1 : Nat.ble ((e11 X).size + (e12 X).size) 4611686018427387904 = true := f1.c5
  have s0 : Nat.ble ((e13 X).size + (e14 X).size) 4611686018427387904 = true := f0.c5
  have p5 : ((e1 X) ++ (e2 X)).data.toList = [H (b5 X / 16), H (b5 X % 16)] := f5.p
  have p4 : ((e3 X) ++ (e4 X)).data.toList = [H (b4 X / 16), H (b4 X % 16)] := f4.p
  have p3 : ((e6 X) ++ (e7 X)).data.toList = [H (b3 X / 16), H (b3 X % 16)] := f3.p
  have p2 : ((e8 X) ++ (e9 X)).data.toList = [H (b2 X / 16), H (b2 X % 16)] := f2.p
  have p1 : ((e11 X) ++ (e12 X)).data.toList = [H (b1 X / 16), H (b1 X % 16)] := f1.p
  have p0 : ((e13 X) ++ (e14 X)).data.toList = [H (b0' X / 16), H (b0' X % 16)] := f0.p
  have hrow : (rowL 6 (e15 X)).map (·.data.toList) = [((e1 X) ++ (e2 X)).data.toList, ((e3 X) ++ (e4 X)).data.toList, ((e6 X) ++ (e7 X)).data.toList, ((e8 X) ++ (e9 X)).data.toList, ((e11 X) ++ (e12 X)).data.toList, ((e13 X) ++ (e14 X)).data.toList] := by kernel_rfl
  rw [p5, p4, p3, p2, p1, p0] at hrow
  have hj : Lib.join ((rowL 6 (e15 X)).map (·.data.toList)) (⟨#[58]⟩ : ByteArray).data.toList = tl X := by rw [hrow]; rfl
  have hok : joinOk 6 (e15 X) (⟨#[58]⟩ : ByteArray) = true := by unfold joinOk; rw [hj]; rfl
  have hs : joinS 6 (e15 X) (⟨#[58]⟩ : ByteArray) = ⟨(tl X).toArray⟩ := by unfold joinS; rw [hj]
  unfold mac_Text mac_Text_T
  rw [shr48 (by omega), dec_t (show (X : Int) < 281474976710656 by omega)]
  rw [f5.c1, f5.c2, f5.c3, f5.c4, s5, f4.c1, f4.c2, f4.c3, f4.c4, s4, f3.c1, f3.c2, f3.c3, f3.c4, s3, f2.c1, f2.c2, f2.c3, f2.c4, s2, f1.c1, f1.c2, f1.c3, f1.c4, s1, f0.c1, f0.c2, f0.c3, f0.c4, s0, hok, hs]
  rfl
/-! ### order -/
def pairs : Bool := (List.range 16).all fun n => (List.range 16).all fun m => (decide (H n < H m) == decide (n < m)) && ((H n == H m) == (n == m))
theorem pairs_ok : pairs = true := by kernel_rfl
theorem nib {n m : Nat} (hn : n < 16) (hm : m < 16) : decide (H n < H m) = decide (n < m) ∧ (H n == H m) = (n == m) := by
  have := List.all_eq_true.1 (List.all_eq_true.1 pairs_ok n (List.mem_range.2 hn)) m (List.mem_range.2 hm)
  simpa using this
theorem less_cons (a b : UInt8) (x y : List UInt8) : Op.bytesLess (a :: x) (b :: y) = (decide (a < b) || (a == b && Op.bytesLess x y)) := rfl
theorem nib2 {B C : Nat} (hB : B < 256) (hC : C < 256) (x y : List UInt8) : Op.bytesLess (H (B / 16) :: H (B % 16) :: x) (H (C / 16) :: H (C % 16) :: y) = (decide (B < C) || (B == C && Op.bytesLess x y)) := by
  rw [less_cons, less_cons, (nib (show B / 16 < 16 by omega) (show C / 16 < 16 by omega)).1, (nib (show B / 16 < 16 by omega) (show C / 16 < 16 by omega)).2, (nib (show B % 16 < 16 by omega) (show C % 16 < 16 by omega)).1, (nib (show B % 16 < 16 by omega) (show C % 16 < 16 by omega)).2]
  generalize Op.bytesLess x y = z
  rcases Nat.lt_trichotomy B C with h | h | h
  · rw [dec_t h]
    by_cases h1 : B / 16 < C / 16
    · rw [dec_t h1]; rfl
    · rw [dec_f h1, dec_t (show B % 16 < C % 16 by omega), show (B / 16 == C / 16) = true from beq_iff_eq.2 (by omega)]; rfl
  · subst h
    simp
  · rw [dec_f (show ¬ B < C by omega), show (B == C) = false from beq_eq_false_iff_ne.2 (by omega), dec_f (show ¬ B / 16 < C / 16 by omega)]
    by_cases h1 : B / 16 = C / 16
    · rw [dec_f (show ¬ B % 16 < C % 16 by omega), show (B % 16 == C % 16) = false from beq_eq_false_iff_ne.2 (by omega)]; simp
    · rw [show (B / 16 == C / 16) = false from beq_eq_false_iff_ne.2 h1]; rfl
theorem sep (x y : List UInt8) : Op.bytesLess (58 :: x) (58 :: y) = Op.bytesLess x y := by rw [less_cons]; simp
theorem lex (n m r s K : Nat) (hr : r < K) (hs : s < K) : (decide (n < m) || (n == m && decide (r < s))) = decide (n * K + r < m * K + s) := by
  rcases Nat.lt_trichotomy n m with h | h | h
  · have := Nat.mul_le_mul_right K (show n + 1 ≤ m from h)
    rw [Nat.add_mul, Nat.one_mul] at this
    rw [dec_t h, dec_t (show n * K + r < m * K + s by omega)]
    rfl
  · subst h
    rw [dec_f (Nat.lt_irrefl n), beq_self_eq_true]
    by_cases h1 : r < s
    · rw [dec_t h1, dec_t (by omega)]; rfl
    · rw [dec_f h1, dec_f (by omega)]; rfl
  · have := Nat.mul_le_mul_right K (show m + 1 ≤ n from h)
    rw [Nat.add_mul, Nat.one_mul] at this
    rw [dec_f (show ¬ n < m by omega), show (n == m) = false from beq_eq_false_iff_ne.2 (by omega), dec_f (show ¬ n * K + r < m * K + s by omega)]
    rfl
theorem six_lex (X Y : Nat) (hX : X < 281474976710656) (hY : Y < 281474976710656) : (decide (b5 X < b5 Y) || (b5 X == b5 Y && (decide (b4 X < b4 Y) || (b4 X == b4 Y && (decide (b3 X < b3 Y) || (b3 X == b3 Y && (decide (b2 X < b2 Y) || (b2 X == b2 Y && (decide (b1 X < b1 Y) || (b1 X == b1 Y && (decide (b0' X < b0' Y) || (b0' X == b0' Y && false)))))))))))) = decide (X < Y) := by
  unfold b5 b4 b3 b2 b1 b0'
  rw [Bool.and_false, Bool.or_false]
  rw [lex _ _ _ _ 256 (by omega) (by omega), lex _ _ _ _ 65536 (by omega) (by omega), lex _ _ _ _ 16777216 (by omega) (by omega), lex _ _ _ _ 4294967296 (by omega) (by omega), lex _ _ _ _ 1099511627776 (by omega) (by omega)]
  rw [show X / 1099511627776 % 256 * 1099511627776 + (X / 4294967296 % 256 * 4294967296 + (X / 16777216 % 256 * 16777216 + (X / 65536 % 256 * 65536 + (X / 256 % 256 * 256 + X % 256)))) = X by omega]
  rw [show Y / 1099511627776 % 256 * 1099511627776 + (Y / 4294967296 % 256 * 4294967296 + (Y / 16777216 % 256 * 16777216 + (Y / 65536 % 256 * 65536 + (Y / 256 % 256 * 256 + Y % 256)))) = Y by omega]
theorem text_less (X Y : Nat) (hX : X < 281474976710656) (hY : Y < 281474976710656) : Op.bytesLess (tl X) (tl Y) = decide (X < Y) := by
  rw [← six_lex X Y hX hY]
  unfold tl
  rw [nib2 (by unfold b5; omega) (by unfold b5; omega), sep, nib2 (by unfold b4; omega) (by unfold b4; omega), sep, nib2 (by unfold b3; omega) (by unfold b3; omega), sep, nib2 (by unfold b2; omega) (by unfold b2; omega), sep, nib2 (by unfold b1; omega) (by unfold b1; omega), sep, nib2 (by unfold b0'; omega) (by unfold b0'; omega)]
  rfl
theorem u8_lt {n m : Nat} (hn : n < 256) (hm : m < 256) : decide (UInt8.ofNat n < UInt8.ofNat m) = decide (n < m) ∧ (UInt8.ofNat n == UInt8.ofNat m) = (n == m) := by
  have e1 : (UInt8.ofNat n).toNat = n := by simp; omega
  have e2 : (UInt8.ofNat m).toNat = m := by simp; omega
  constructor
  · by_cases h : n < m
    · rw [dec_t h, dec_t (UInt8.lt_iff_toNat_lt.2 (by omega))]
    · rw [dec_f h, dec_f fun h' => h (by have := UInt8.lt_iff_toNat_lt.1 h'; omega)]
  · by_cases h : n = m
    · subst h; simp
    · rw [beq_eq_false_iff_ne.2 h, beq_eq_false_iff_ne.2 fun h' => h (by have := congrArg UInt8.toNat h'; omega)]
theorem main {α : Type} (a_1 : Int) (a_2 : Int) (h_1 : PvOk (.val (.int .u64 a_1))) (h_2 : PvOk (.val (.int .u64 a_2))) (k0 k1 : Option α) : law09_MacOrder a_1 a_2 k0 k1 = k0 := by
  have ha := pv_u64 h_1
  have hb := pv_u64 h_2
  obtain ⟨X, hX, hX2⟩ : ∃ X : Nat, a_1.tmod 281474976710656 = (X : Int) ∧ X < 281474976710656 := ⟨(a_1.tmod 281474976710656).toNat, by rw [Int.tmod_eq_emod_of_nonneg ha.1]; omega, by rw [Int.tmod_eq_emod_of_nonneg ha.1]; omega⟩
  obtain ⟨Y, hY, hY2⟩ : ∃ Y : Nat, a_2.tmod 281474976710656 = (Y : Int) ∧ Y < 281474976710656 := ⟨(a_2.tmod 281474976710656).toNat, by rw [Int.tmod_eq_emod_of_nonneg hb.1]; omega, by rw [Int.tmod_eq_emod_of_nonneg hb.1]; omega⟩
  have hd : decide ((X : Int) < (Y : Int)) = decide (X < Y) := by
    by_cases h : X < Y
    · rw [dec_t h, dec_t (by omega)]
    · rw [dec_f h, dec_f (by omega)]
  unfold law09_MacOrder law09_MacOrder_T
  rw [hX, hY, text_ex X hX2, text_ex Y hY2]
  have h20 : e20 ⟨(tl X).toArray⟩ ⟨(tl Y).toArray⟩ a_1 a_2 = true := by
    unfold e20
    rw [hX, hY, hd, Lib.toList_data, Lib.toList_data]
    show (Op.bytesLess (tl X) (tl Y) == decide (X < Y)) = true
    rw [text_less X Y hX2 hY2, beq_self_eq_true]
  have l16 : ∀ a : Int, ∀ Z : Nat, a.tmod 281474976710656 = (Z : Int) → (e16 a).data.toList = [UInt8.ofNat (b5 Z), UInt8.ofNat (b4 Z), UInt8.ofNat (b3 Z), UInt8.ofNat (b2 Z), UInt8.ofNat (b1 Z), UInt8.ofNat (b0' Z)] := by
    intro a Z hZ
    unfold e16
    rw [hZ, w40, w32, w24, w16, w8, w0]
    rfl
  have h17 : e17 a_1 a_2 = true := by
    unfold e17
    rw [hX, hY, hd, Lib.toList_data, Lib.toList_data, l16 a_1 X hX, l16 a_2 Y hY, ← six_lex X Y hX2 hY2]
    have q5 := u8_lt (show b5 X < 256 by unfold b5; omega) (show b5 Y < 256 by unfold b5; omega)
    have q4 := u8_lt (show b4 X < 256 by unfold b4; omega) (show b4 Y < 256 by unfold b4; omega)
    have q3 := u8_lt (show b3 X < 256 by unfold b3; omega) (show b3 Y < 256 by unfold b3; omega)
    have q2 := u8_lt (show b2 X < 256 by unfold b2; omega) (show b2 Y < 256 by unfold b2; omega)
    have q1 := u8_lt (show b1 X < 256 by unfold b1; omega) (show b1 Y < 256 by unfold b1; omega)
    have q0 := u8_lt (show b0' X < 256 by unfold b0'; omega) (show b0' Y < 256 by unfold b0'; omega)
    rw [less_cons, less_cons, less_cons, less_cons, less_cons, less_cons, q5.1, q5.2, q4.1, q4.2, q3.1, q3.2, q2.1, q2.2, q1.1, q1.2, q0.1, q0.2]
    exact beq_self_eq_true _
  rw [h20, h17]
  rfl
end Go.Proofs.YtampnnhdgnhjaaaDoor.MacOrder

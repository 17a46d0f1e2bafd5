/- MacKinds: what the code comes to answers true: plain numbers and texts, no program in sight. -/
import Derived.Test.YtampnnhdgnhjaaaDoorMacKindsU
import Derived.Laws.Bits64
set_option linter.unusedVariables false
set_option linter.unusedSimpArgs false
namespace Go.Proofs.YtampnnhdgnhjaaaDoor.MacKinds
open Go.Ve
def H (n : Nat) : UInt8 := ([48, 49, 50, 51, 52, 53, 54, 55, 56, 57, 97, 98, 99, 100, 101, 102] : List UInt8).getD n 0
def pa (B : Int) : ByteArray := (⟨#[48, 49, 50, 51, 52, 53, 54, 55, 56, 57, 97, 98, 99, 100, 101, 102]⟩ : ByteArray).extract ((shrI .u8 B 4).toNat) (((shrI .u8 B 4).toNat) + (((IntKind.u8.wrap ((shrI .u8 B 4) + 1)).toNat) - ((shrI .u8 B 4).toNat)))
def pb (B : Int) : ByteArray := (⟨#[48, 49, 50, 51, 52, 53, 54, 55, 56, 57, 97, 98, 99, 100, 101, 102]⟩ : ByteArray).extract ((bits .and .u8 B 15).toNat) (((bits .and .u8 B 15).toNat) + (((IntKind.u8.wrap ((bits .and .u8 B 15) + 1)).toNat) - ((bits .and .u8 B 15).toNat)))
def tst (n : Nat) : Bool := inb (IntKind.u8.wrap ((shrI .u8 (n : Int) 4) + 1)) 17 && ((decide (0 ≤ shrI .u8 (n : Int) 4) && decide (shrI .u8 (n : Int) 4 ≤ IntKind.u8.wrap ((shrI .u8 (n : Int) 4) + 1))) && (inb (IntKind.u8.wrap ((bits .and .u8 (n : Int) 15) + 1)) 17 && ((decide (0 ≤ bits .and .u8 (n : Int) 15) && decide (bits .and .u8 (n : Int) 15 ≤ IntKind.u8.wrap ((bits .and .u8 (n : Int) 15) + 1))) && (Nat.ble ((pa n).size + (pb n).size) 4611686018427387904 && (pa n ++ pb n).data.toList == [H (n / 16), H (n % 16)]))))
theorem all256 : ((List.range 256).all tst) = true := by kernel_rfl
structure Byte (B : Int) (n : Nat) : Prop where
  c1 : inb (IntKind.u8.wrap ((shrI .u8 B 4) + 1)) 17 = true
  c2 : (decide (0 ≤ shrI .u8 B 4) && decide (shrI .u8 B 4 ≤ IntKind.u8.wrap ((shrI .u8 B 4) + 1))) = true
  c3 : inb (IntKind.u8.wrap ((bits .and .u8 B 15) + 1)) 17 = true
  c4 : (decide (0 ≤ bits .and .u8 B 15) && decide (bits .and .u8 B 15 ≤ IntKind.u8.wrap ((bits .and .u8 B 15) + 1))) = true
  c5 : Nat.ble ((pa B).size + (pb B).size) 4611686018427387904 = true
  p : (pa B ++ pb B).data.toList = [H (n / 16), H (n % 16)]
theorem byte_ok {B : Int} {n : Nat} (e : B = (n : Int)) (h : n < 256) : Byte B n := by
  subst e
  have := List.all_eq_true.1 all256 n (List.mem_range.2 h)
  simp only [tst, Bool.and_eq_true] at this
  obtain ⟨h1, h2, h3, h4, h5, h6⟩ := this
  exact ⟨h1, by simpa using h2, h3, by simpa using h4, h5, by simpa using h6⟩
def b5 (X : Nat) : Nat := X / 1099511627776 % 256
def b4 (X : Nat) : Nat := X / 4294967296 % 256
def b3 (X : Nat) : Nat := X / 16777216 % 256
def b2 (X : Nat) : Nat := X / 65536 % 256
def b1 (X : Nat) : Nat := X / 256 % 256
def b0' (X : Nat) : Nat := X % 256
def tl (X : Nat) : List UInt8 := [H (b5 X / 16), H (b5 X % 16), 58, H (b4 X / 16), H (b4 X % 16), 58, H (b3 X / 16), H (b3 X % 16), 58, H (b2 X / 16), H (b2 X % 16), 58, H (b1 X / 16), H (b1 X % 16), 58, H (b0' X / 16), H (b0' X % 16)]
theorem w40 (X : Nat) : IntKind.u8.wrap (shrI .u64 (X : Int) 40) = ((b5 X : Nat) : Int) := by rw [b40]; unfold b5; omega
theorem w32 (X : Nat) : IntKind.u8.wrap (shrI .u64 (X : Int) 32) = ((b4 X : Nat) : Int) := by rw [b32]; unfold b4; omega
theorem w24 (X : Nat) : IntKind.u8.wrap (shrI .u64 (X : Int) 24) = ((b3 X : Nat) : Int) := by rw [b24]; unfold b3; omega
theorem w16 (X : Nat) : IntKind.u8.wrap (shrI .u64 (X : Int) 16) = ((b2 X : Nat) : Int) := by rw [b16]; unfold b2; omega
theorem w8 (X : Nat) : IntKind.u8.wrap (shrI .u64 (X : Int) 8) = ((b1 X : Nat) : Int) := by rw [b8]; unfold b1; omega
theorem w0 (X : Nat) : IntKind.u8.wrap (shrI .u64 (X : Int) 0) = ((b0' X : Nat) : Int) := by rw [Ve.b0]; unfold b0'; omega
theorem text_ex (X : Nat) (hX : X < 281474976710656) (α : Type) (k0 : Option α) (k1 : ByteArray → Option α) : mac_Text (X : Int) k0 k1 = k1 ⟨(tl X).toArray⟩ := by
  have f5 := byte_ok (w40 X) (by unfold b5; omega)
  have f4 := byte_ok (w32 X) (by unfold b4; omega)
  have f3 := byte_ok (w24 X) (by unfold b3; omega)
  have f2 := byte_ok (w16 X) (by unfold b2; omega)
  have f1 := byte_ok (w8 X) (by unfold b1; omega)
  have f0 := byte_ok (w0 X) (by unfold b0'; omega)
  have s5 : Nat.ble ((e2 X).size + (e3 X).size) 4611686018427387904 = true := f5.c5
  have s4 : Nat.ble ((e4 X).size + (e5 X).size) 4611686018427387904 = true := f4.c5
  have s3 : Nat.ble ((e7 X).size + (e8 X).size) 4611686018427387904 = true := f3.c5
  have s2 : Nat.ble ((e9 X).size + (e10 X).size) 4611686018427387904 = true := f2.c5
  have s1 : Nat.ble ((e12 X).size + (e13 X).size) 4611686018427387904 = true := f1.c5
  have s0 : Nat.ble ((e14 X).size + (e15 X).size) 4611686018427387904 = true := f0.c5
  have p5 : ((e2 X) ++ (e3 X)).data.toList = [H (b5 X / 16), H (b5 X % 16)] := f5.p
  have p4 : ((e4 X) ++ (e5 X)).data.toList = [H (b4 X / 16), H (b4 X % 16)] := f4.p
  have p3 : ((e7 X) ++ (e8 X)).data.toList = [H (b3 X / 16), H (b3 X % 16)] := f3.p
  have p2 : ((e9 X) ++ (e10 X)).data.toList = [H (b2 X / 16), H (b2 X % 16)] := f2.p
  have p1 : ((e12 X) ++ (e13 X)).data.toList = [H (b1 X / 16), H (b1 X % 16)] := f1.p
  have p0 : ((e14 X) ++ (e15 X)).data.toList = [H (b0' X / 16), H (b0' X % 16)] := f0.p
  have hrow : (rowL 6 (e16 X)).map (·.data.toList) = [((e2 X) ++ (e3 X)).data.toList, ((e4 X) ++ (e5 X)).data.toList, ((e7 X) ++ (e8 X)).data.toList, ((e9 X) ++ (e10 X)).data.toList, ((e12 X) ++ (e13 X)).data.toList, ((e14 X) ++ (e15 X)).data.toList] := by kernel_rfl
  rw [p5, p4, p3, p2, p1, p0] at hrow
  have hj : Lib.join ((rowL 6 (e16 X)).map (·.data.toList)) (⟨#[58]⟩ : ByteArray).data.toList = tl X := by rw [hrow]; rfl
  have hok : joinOk 6 (e16 X) (⟨#[58]⟩ : ByteArray) = true := by unfold joinOk; rw [hj]; rfl
  have hs : joinS 6 (e16 X) (⟨#[58]⟩ : ByteArray) = ⟨(tl X).toArray⟩ := by unfold joinS; rw [hj]
  unfold mac_Text mac_Text_T
  rw [shr48 (by omega), dec_t (show (X : Int) < 281474976710656 by omega)]
  rw [f5.c1, f5.c2, f5.c3, f5.c4, s5, f4.c1, f4.c2, f4.c3, f4.c4, s4, f3.c1, f3.c2, f3.c3, f3.c4, s3, f2.c1, f2.c2, f2.c3, f2.c4, s2, f1.c1, f1.c2, f1.c3, f1.c4, s1, f0.c1, f0.c2, f0.c3, f0.c4, s0, hok, hs]
  rfl
/-! ### bits -/
theorem and1 (x : Int) (h0 : 0 ≤ x) (h1 : x < 9223372036854775808) : bits .and .u64 x 1 = x % 2 :=
  bits_mask .u64 63 (by decide) (fun n a b => u64_id a (by rw [p63] at b; omega)) 1 (by decide) x h0 (by rw [p63]; omega)
theorem and_hi (x : Nat) (hx : x < 18446744073709551616) : x &&& 18446744073709551600 = x / 16 * 16 := by
  apply Nat.eq_of_testBit_eq
  intro i
  rw [Nat.testBit_and, show (18446744073709551600 : Nat) = 2 ^ 4 * (2 ^ 60 - 1) by decide, Nat.testBit_two_pow_mul, Nat.testBit_two_pow_sub_one, show x / 16 * 16 = 2 ^ 4 * (x / 2 ^ 4) by omega, Nat.testBit_two_pow_mul, Nat.testBit_div_two_pow]
  by_cases h : i ≥ 4
  · rw [show i - 4 + 4 = i by omega]
    by_cases h2 : i - 4 < 60
    · simp [h, h2]
    · have : x.testBit i = false := Nat.testBit_lt_two_pow (Nat.lt_of_lt_of_le hx (by rw [show (18446744073709551616 : Nat) = 2 ^ 64 by decide]; exact Nat.pow_le_pow_right (by omega) (by omega)))
      simp [this]
  · simp [h]
theorem andNot15 (x : Nat) (hx : x < 18446744073709551616) : bits .andNot .u64 (x : Int) 15 = ((x / 16 * 16 : Nat) : Int) := by
  show IntKind.u64.wrap ((BitVec.ofInt 64 (x : Int) &&& ~~~BitVec.ofInt 64 15).toNat : Int) = _
  have h1 : (BitVec.ofInt 64 15).toNat = 15 := by decide
  have h2 : (BitVec.ofInt 64 (x : Int)).toNat = x := by
    rw [BitVec.ofInt_natCast, BitVec.toNat_ofNat]; exact Nat.mod_eq_of_lt (by omega)
  rw [BitVec.toNat_and, BitVec.toNat_not, h2, h1, show 2 ^ 64 - 1 - 15 = 18446744073709551600 by decide, and_hi x hx]
  exact u64_id (by omega) (by omega)
theorem shr40 (x : Int) : shrI .u64 x 40 = x / 1099511627776 := shr_div .u64 x 40 (by decide)
theorem group_lo (X : Nat) (hX : X < 281474976710656) (α : Type) (k : Bool → Option α) : mac_Group (X : Int) k = k (X / 1099511627776 % 2 == 1) := by
  unfold mac_Group mac_Group_T
  rw [shr48 (by omega), dec_t (show (X : Int) < 281474976710656 by omega), cond_true, shr40, and1 _ (by omega) (by omega)]
  congr 1
  by_cases h : X / 1099511627776 % 2 = 1
  · rw [beq_iff_eq.2 h, beq_iff_eq]; omega
  · rw [beq_eq_false_iff_ne.2 h, beq_eq_false_iff_ne]; omega
theorem group_hi (X : Nat) (hX : 281474976710656 ≤ X) (α : Type) (k : Bool → Option α) : mac_Group (X : Int) k = k false := by
  unfold mac_Group mac_Group_T
  rw [shr48 (by omega), dec_f (show ¬ (X : Int) < 281474976710656 by omega), cond_false]
theorem turned (X : Nat) (hX : X < 281474976710656) : X ^^^ 1099511627776 < 281474976710656 ∧ (X ^^^ 1099511627776) / 1099511627776 % 2 ≠ X / 1099511627776 % 2 := by
  refine ⟨Nat.xor_lt_two_pow (n := 48) (by omega) (by decide), fun h => ?_⟩
  have h1 := Nat.testBit_eq_decide_div_mod_eq (x := X) (i := 40)
  have h2 := Nat.testBit_eq_decide_div_mod_eq (x := X ^^^ 1099511627776) (i := 40)
  rw [Nat.testBit_xor, show (1099511627776 : Nat).testBit 40 = true by decide, h1] at h2
  rw [show (2 : Nat) ^ 40 = 1099511627776 by decide, h] at h2
  cases hd : decide (X / 1099511627776 % 2 = 1) <;> rw [hd] at h2 <;> cases h2
theorem big (X : Nat) (hX : X < 281474976710656) : IntKind.u64.wrap ((X : Int) + 281474976710656) = ((X + 281474976710656 : Nat) : Int) := by rw [u64_id (by omega) (by omega)]; omega
theorem e1_f (a : Int) (X : Nat) (hX : a.tmod 281474976710656 = (X : Int)) (hX2 : X < 281474976710656) : e1 a = false := by
  unfold e1
  rw [hX, big X hX2, andNot15 _ (by omega), beq_eq_false_iff_ne]
  omega
theorem c5 (X : Nat) : b5 (X + 281474976710656) = b5 X := by unfold b5; omega
theorem c4 (X : Nat) : b4 (X + 281474976710656) = b4 X := by unfold b4; omega
theorem c3 (X : Nat) : b3 (X + 281474976710656) = b3 X := by unfold b3; omega
theorem c2 (X : Nat) : b2 (X + 281474976710656) = b2 X := by unfold b2; omega
theorem c1 (X : Nat) : b1 (X + 281474976710656) = b1 X := by unfold b1; omega
theorem c0 (X : Nat) : b0' (X + 281474976710656) = b0' X := by unfold b0'; omega
theorem e23_t (a : Int) (X : Nat) (hX : a.tmod 281474976710656 = (X : Int)) (hX2 : X < 281474976710656) : e23 a = true := by
  unfold e23 e17 e18 e19 e20 e21 e22
  rw [hX, big X hX2]
  generalize hY : X + 281474976710656 = Y
  rw [w40, w32, w24, w16, w8, w0, w40, w32, w24, w16, w8, w0]
  subst hY
  rw [c5, c4, c3, c2, c1, c0]
  simp only [beq_self_eq_true, Bool.and_self]
theorem text_hi (Y : Nat) (hY : 281474976710656 ≤ Y) {α : Type} (k0 : Option α) (k1 : ByteArray → Option α) : mac_Text (Y : Int) k0 k1 = k0 := by
  unfold mac_Text mac_Text_T
  rw [shr48 (by omega), dec_f (show ¬ (Y : Int) < 281474976710656 by omega)]
  rfl
theorem sz (X : Nat) : (((⟨(tl X).toArray⟩ : ByteArray).size : Int) == 17) = true := rfl
theorem kinds (X : Nat) (hX : X < 281474976710656) : ((X / 1099511627776 % 2 == 1) == ((X ^^^ 1099511627776) / 1099511627776 % 2 == 1)) = false := by
  have t2 := (turned X hX).2
  rw [beq_eq_false_iff_ne]
  intro h
  by_cases h1 : X / 1099511627776 % 2 = 1
  · rw [beq_iff_eq.2 h1] at h
    have := beq_iff_eq.1 h.symm
    omega
  · rw [beq_eq_false_iff_ne.2 h1] at h
    have := beq_eq_false_iff_ne.1 h.symm
    omega
theorem tail {α : Type} (X Z Y : Nat) (hX : X < 281474976710656) (hZ : Z < 281474976710656) (hY : 281474976710656 ≤ Y) (hk : ((X / 1099511627776 % 2 == 1) == (Z / 1099511627776 % 2 == 1)) = false) (k0 k1 : Option α) (f : ByteArray → Option α) :
    mac_Group (X : Int) (fun r_2 => mac_Group (Z : Int) (fun r_3 => bif (r_2 == r_3) then k0 else bif !true then k0 else bif !false then mac_Group (Y : Int) (fun r_4 => bif !r_4 then bif !false then
       mac_Text (Y : Int) (mac_Text (X : Int) k0 (fun r_5 => bif ((r_5.size : Int) == 17) then bif true then k1 else k0 else k0)) f else k0 else k0) else k0)) = k1 := by
  rw [group_lo X hX, group_lo Z hZ, hk, group_hi Y hY, text_hi Y hY, text_ex X hX, sz]
  rfl
theorem main {α : Type} (a_1 : Int) (h_1 : PvOk (.val (.int .u64 a_1))) (k0 k1 : Option α) : law09_MacKinds a_1 k0 k1 = k1 := by
  have ha := pv_u64 h_1
  obtain ⟨X, hX, hX2⟩ : ∃ X : Nat, a_1.tmod 281474976710656 = (X : Int) ∧ X < 281474976710656 := ⟨(a_1.tmod 281474976710656).toNat, by rw [Int.tmod_eq_emod_of_nonneg ha.1]; omega, by rw [Int.tmod_eq_emod_of_nonneg ha.1]; omega⟩
  have t1 := (turned X hX2).1
  have hk := kinds X hX2
  have hx : bits .xor .u64 (X : Int) 1099511627776 = ((X ^^^ 1099511627776 : Nat) : Int) := bits_xor_u64_nat X 1099511627776 (by omega) (by decide)
  have hc := big X hX2
  have hY : 281474976710656 ≤ X + 281474976710656 := by omega
  have h1 := e1_f a_1 X hX hX2
  have h23 := e23_t a_1 X hX hX2
  unfold law09_MacKinds law09_MacKinds_T
  rw [hX, hc, hx, h1, h23]
  generalize X ^^^ 1099511627776 = Z at *
  generalize X + 281474976710656 = Y at *
  rw [andNot15 X (by omega), shr48 (by omega), shr48 (by omega), dec_t (show (X : Int) < 281474976710656 by omega), dec_f (show ¬ (Y : Int) < 281474976710656 by omega)]
  by_cases hq : ((X / 16 * 16 : Nat) : Int) = 1652522221568
  · rw [beq_iff_eq.2 hq, cond_true, group_lo X hX2, show (X / 1099511627776 % 2 == 1) = true from beq_iff_eq.2 (by omega), Bool.not_true, cond_false]
    exact tail X Z Y hX2 t1 hY hk k0 k1 _
  · rw [beq_eq_false_iff_ne.2 hq, cond_false]
    exact tail X Z Y hX2 t1 hY hk k0 k1 _
end Go.Proofs.YtampnnhdgnhjaaaDoor.MacKinds

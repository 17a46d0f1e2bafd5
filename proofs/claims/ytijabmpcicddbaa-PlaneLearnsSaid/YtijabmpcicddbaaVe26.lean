/- The evaluator ("VE"): plain laws of numbers in bytes, and of rows joined. -/
import Derived.Test.YtijabmpcicddbaaVe25
set_option linter.unusedVariables false
set_option linter.unusedSimpArgs false
namespace Go.Ve
theorem orv (x c : Int) (h0 : 0 ≤ x) (h1 : x < 281474976710656) (hc : 0 ≤ c) (hc1 : c < 256) : bits .or .u64 (shlI .u64 x 8) (IntKind.u64.wrap c) = x * 256 + c := by
  rw [u64_id hc (by omega), or_add x c hc hc1, shl8, u64_id (by omega) (by omega)]
  omega
theorem orv0 (c : Int) (hc : 0 ≤ c) (hc1 : c < 256) : bits .or .u64 0 (IntKind.u64.wrap c) = c := by
  rw [u64_id hc (by omega), or_add0 c hc hc1, u64_id (by omega) (by omega)]
  omega
/-- six bytes, one number -/
theorem six (a : Int) (h0 : 0 ≤ a) (h1 : a < 281474976710656) :
    bits .or .u64 (shlI .u64 (bits .or .u64 (shlI .u64 (bits .or .u64 (shlI .u64 (bits .or .u64 (shlI .u64 (bits .or .u64 (shlI .u64 (bits .or .u64 0 (IntKind.u64.wrap (a / 1099511627776 % 256))) 8) (IntKind.u64.wrap (a / 4294967296 % 256))) 8) (IntKind.u64.wrap (a / 16777216 % 256))) 8) (IntKind.u64.wrap (a / 65536 % 256))) 8) (IntKind.u64.wrap (a / 256 % 256))) 8) (IntKind.u64.wrap (a % 256)) = a := by
  rw [orv0 (a / 1099511627776 % 256) (by omega) (by omega)]
  rw [orv (a / 1099511627776 % 256) (a / 4294967296 % 256) (by omega) (by omega) (by omega) (by omega)]
  rw [show a / 1099511627776 % 256 * 256 + a / 4294967296 % 256 = a / 4294967296 by omega]
  rw [orv (a / 4294967296) (a / 16777216 % 256) (by omega) (by omega) (by omega) (by omega)]
  rw [show a / 4294967296 * 256 + a / 16777216 % 256 = a / 16777216 by omega]
  rw [orv (a / 16777216) (a / 65536 % 256) (by omega) (by omega) (by omega) (by omega)]
  rw [show a / 16777216 * 256 + a / 65536 % 256 = a / 65536 by omega]
  rw [orv (a / 65536) (a / 256 % 256) (by omega) (by omega) (by omega) (by omega)]
  rw [show a / 65536 * 256 + a / 256 % 256 = a / 256 by omega]
  rw [orv (a / 256) (a % 256) (by omega) (by omega) (by omega) (by omega)]
  omega
theorem i64_wraps : ∀ n : Int, 0 ≤ n → n < 2 ^ 63 → IntKind.i64.wrap n = n := fun n a b => i64_id (by omega) (by
  have : (2 : Int) ^ 63 = 9223372036854775808 := by decide
  omega)
theorem p63 : (2 : Int) ^ 63 = 9223372036854775808 := by decide
theorem p13 : (2 : Int) ^ 13 = 8192 := by decide
theorem p8 : (2 : Int) ^ 8 = 256 := by decide
theorem shli8 (x : Int) (h0 : 0 ≤ x) (h1 : x < 65536) : shlI .i64 x 8 = x * 256 := by
  have : shlI .i64 x 8 = IntKind.i64.wrap (x * 256) := rfl
  rw [this, i64_id (by omega) (by omega)]
theorem shli13 (x : Int) (h0 : 0 ≤ x) (h1 : x < 65536) : shlI .i64 x 13 = x * 8192 := by
  have : shlI .i64 x 13 = IntKind.i64.wrap (x * 8192) := rfl
  rw [this, i64_id (by omega) (by omega)]
/-- two bytes, one number -/
theorem two (b c : Int) (h0 : 0 ≤ b) (h1 : b < 256) (hc : 0 ≤ c) (hc1 : c < 256) : bits .or .i64 (shlI .i64 (IntKind.i64.wrap b) 8) (IntKind.i64.wrap c) = b * 256 + c := by
  rw [i64_id (n := b) (by omega) (by omega), i64_id (n := c) (by omega) (by omega), shli8 b h0 (by omega)]
  exact bits_join .i64 63 (by decide) i64_wraps 8 (b * 256) c (by omega) (by rw [p8]; omega) (by rw [p63]; omega) hc (by rw [p8]; omega) (by rw [p63]; omega)
/-- a tag's number -/
theorem tagn (p v : Int) (h0 : 0 ≤ p) (h1 : p < 8) (hv : 0 ≤ v) (hv1 : v < 8192) : bits .or .i64 (shlI .i64 p 13) v = p * 8192 + v := by
  rw [shli13 p h0 (by omega)]
  exact bits_join .i64 63 (by decide) i64_wraps 13 (p * 8192) v (by omega) (by rw [p13]; omega) (by rw [p63]; omega) hv (by rw [p13]; omega) (by rw [p63]; omega)
theorem and13 (x : Int) (h0 : 0 ≤ x) (h1 : x < 65536) : bits .and .i64 x 8191 = x % 8192 :=
  bits_mask .i64 63 (by decide) i64_wraps 13 (by decide) x h0 (by rw [p63]; omega)
theorem shri13 (x : Int) : shrI .i64 x 13 = x / 8192 := shr_div .i64 x 13 (by decide)
theorem wrap_u8 (n : Int) : IntKind.u8.wrap n = n % 256 := IntKind.wrap_u8 n
theorem hi2 (x : Int) (h0 : 0 ≤ x) (h1 : x < 65536) : IntKind.u8.wrap (shrI .i64 x 8) = x / 256 := by
  have e : shrI .i64 x 8 = x / 256 := shr_div .i64 x 8 (by decide)
  rw [e, wrap_u8]; omega
theorem b40 (x : Int) : IntKind.u8.wrap (shrI .u64 x 40) = x / 1099511627776 % 256 := by
  have e : shrI .u64 x 40 = x / 1099511627776 := shr_div .u64 x 40 (by decide)
  rw [e, wrap_u8]
theorem b32 (x : Int) : IntKind.u8.wrap (shrI .u64 x 32) = x / 4294967296 % 256 := by
  have e : shrI .u64 x 32 = x / 4294967296 := shr_div .u64 x 32 (by decide)
  rw [e, wrap_u8]
theorem b24 (x : Int) : IntKind.u8.wrap (shrI .u64 x 24) = x / 16777216 % 256 := by
  have e : shrI .u64 x 24 = x / 16777216 := shr_div .u64 x 24 (by decide)
  rw [e, wrap_u8]
theorem b16 (x : Int) : IntKind.u8.wrap (shrI .u64 x 16) = x / 65536 % 256 := by
  have e : shrI .u64 x 16 = x / 65536 := shr_div .u64 x 16 (by decide)
  rw [e, wrap_u8]
theorem b8 (x : Int) : IntKind.u8.wrap (shrI .u64 x 8) = x / 256 % 256 := by
  have e : shrI .u64 x 8 = x / 256 := shr_div .u64 x 8 (by decide)
  rw [e, wrap_u8]
theorem b0 (x : Int) : IntKind.u8.wrap (shrI .u64 x 0) = x % 256 := by rw [shr0, wrap_u8]
theorem catf_lo {n : Nat} {f g : Nat → Nat → PV} {j : Nat} (h : j < n) (c : Nat) : catf n f g j c = f j c := by
  unfold catf
  rw [show Nat.blt j n = true from Nat.ble_eq_true_of_le h]
  rfl
theorem catf_hi (n : Nat) (f g : Nat → Nat → PV) (j c : Nat) : catf n f g (n + j) c = g j c := by
  unfold catf
  have : Nat.blt (n + j) n = false := by
    cases h : Nat.blt (n + j) n with
    | true => have := Nat.le_of_ble_eq_true h; omega
    | false => rfl
  rw [this, cond_false, Nat.add_sub_cancel_left]
end Go.Ve

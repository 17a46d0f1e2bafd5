/- The evaluator ("VE"): plain laws of bits and bytes. -/
import Derived.Test.YtijabmpcicddbaaVe24
import Derived.Laws.BitsLemmas
import Derived.Laws.Closers25b
set_option linter.unusedVariables false
set_option linter.unusedSimpArgs false
namespace Go.Ve
theorem wrap_u64 (n : Int) : IntKind.u64.wrap n = n % 18446744073709551616 := by simp [IntKind.wrap, IntKind.bits, IntKind.signed]
theorem u64_id {n : Int} (h0 : 0 ≤ n) (h1 : n < 18446744073709551616) : IntKind.u64.wrap n = n := by rw [wrap_u64]; omega
theorem u8_id {n : Int} (h0 : 0 ≤ n) (h1 : n < 256) : IntKind.u8.wrap n = n := by rw [IntKind.wrap_u8]; omega
theorem i64_id {n : Int} (h0 : -9223372036854775808 ≤ n) (h1 : n < 9223372036854775808) : IntKind.i64.wrap n = n := by rw [IntKind.wrap_i64]; omega
theorem shr_div (k : IntKind) (n : Int) (s : Nat) (hs : s ≤ k.bits) : shrI k n (s : Int) = n / (2 ^ s : Int) := by
  unfold shrI
  have : min ((s : Int).toNat) k.bits = s := by simp; omega
  rw [this, Int.fdiv_eq_ediv_of_nonneg _ (Int.le_of_lt (Int.pow_pos (by decide)))]
theorem shr0 (n : Int) : shrI .u64 n 0 = n := by
  have := shr_div .u64 n 0 (by decide)
  have e : shrI .u64 n 0 = n / (2 ^ 0 : Int) := this
  rw [e]; simp
theorem shr48 {n : Int} (h0 : 0 ≤ n) : (shrI .u64 n 48 == 0) = decide (n < 281474976710656) := by
  have e : shrI .u64 n 48 = n / (2 ^ 48 : Int) := shr_div .u64 n 48 (by decide)
  rw [e, show (2 ^ 48 : Int) = 281474976710656 by decide]
  by_cases h : n < 281474976710656
  · rw [decide_eq_true h]
    have : n / 281474976710656 = 0 := by omega
    rw [this]; rfl
  · rw [decide_eq_false h]
    have : n / 281474976710656 ≠ 0 := by omega
    simpa using this
theorem shl8 (x : Int) : shlI .u64 x 8 = (x * 256) % 18446744073709551616 := by
  have : shlI .u64 x 8 = IntKind.u64.wrap (x * 256) := rfl
  rw [this, wrap_u64]
/-- a number and one more byte: or, or plus -/
theorem or_add (x c : Int) (h0 : 0 ≤ c) (h1 : c < 256) : bits .or .u64 (shlI .u64 x 8) c = IntKind.u64.wrap (shlI .u64 x 8 + c) := by
  have e := shl8 x
  have hj := bits_join .u64 64 (by decide) (fun n a b => u64_id a (by simpa using b)) 8 (shlI .u64 x 8) c (by rw [e]; omega) (by rw [e]; show _ % 256 = 0; omega) (by rw [e]; show _ < 18446744073709551616; omega) h0 (by simpa using h1) (by show c < 18446744073709551616; omega)
  rw [hj, u64_id (by rw [e]; omega) (by rw [e]; omega)]
theorem or_add0 (c : Int) (h0 : 0 ≤ c) (h1 : c < 256) : bits .or .u64 0 c = IntKind.u64.wrap (0 + c) := by
  have := or_add 0 c h0 h1
  have e : shlI .u64 0 8 = 0 := by decide
  rw [e] at this
  exact this
theorem orw {p : PV} (x : Int) (h : 0 ≤ numOf p ∧ numOf p ≤ 255) : bits .or .u64 (shlI .u64 x 8) (IntKind.u64.wrap (numOf p)) = IntKind.u64.wrap (shlI .u64 x 8 + IntKind.u64.wrap (numOf p)) := by
  rw [u64_id h.1 (by omega)]
  exact or_add x _ h.1 (by omega)
theorem orw0 {p : PV} (h : 0 ≤ numOf p ∧ numOf p ≤ 255) : bits .or .u64 0 (IntKind.u64.wrap (numOf p)) = IntKind.u64.wrap (0 + IntKind.u64.wrap (numOf p)) := by
  rw [u64_id h.1 (by omega)]
  exact or_add0 _ h.1 (by omega)
theorem byte_of {nl : Bool} {n : Nat} {f : Nat → Nat → PV} (h : PvOk (.sl nl (.int .u8 .nil) 1 n f)) (hk : RowK (.int .u8 .nil) n f) (j : Nat) (hj : j < n) : 0 ≤ numOf (f j 0) ∧ numOf (f j 0) ≤ 255 := by
  have h1 := (pv_sl h).2.2 j hj 0 (by decide)
  obtain ⟨m, hm⟩ := hk j hj 0
  rw [hm] at h1 ⊢
  exact pv_u8 h1
theorem strOf_congr {n : Nat} {f g : Nat → Nat → PV} (h : ∀ j, j < n → f j 0 = g j 0) : strOf n f = strOf n g := by
  unfold strOf
  congr 2
  refine List.map_congr_left fun j hj => ?_
  rw [h j (by simpa using hj)]
end Go.Ve

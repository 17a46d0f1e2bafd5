/- BpduBack: what the code comes to answers true: plain numbers and rows, no program in sight. -/
import Derived.Test.YtampnnhdgnhjaaaBpduBackU
import Derived.Test.YtampnnhdgnhjaaaVe26
set_option linter.unusedVariables false
set_option linter.unusedSimpArgs false
namespace Go.Proofs.Ytampnnhdgnhjaaa.BpduBack
open Go.Ve
def zrow : Nat → Nat → PV := fun _ j => .val (([.int .u8 0] : List Value).getD j undef)
theorem bnd {n : Nat} (h : n ≤ 200000) : Nat.ble (n * 1) bound = true := ble_true (by unfold bound; omega)
theorem grow {α : Type} (a : Nat) (h0 : 0 < a) (h1 : a ≤ 100000) (k0 : Option α) (k1 : Nat → (Nat → Nat → PV) → Option α) : slices_Grow_byte_byte (a : Int) k0 k1 = k1 a zrow := by
  unfold slices_Grow_byte_byte slices_Grow_byte_byte_T
  have e : IntKind.i64.wrap ((a : Int) - 0) = (a : Int) := by rw [i64_id (by omega) (by omega)]; omega
  have hb : Nat.beq (Int.toNat (a : Int)) 0 = false := by
    cases a with
    | zero => omega
    | succ a => rfl
  simp (disch := omega) only [e, dec_f, dec_t, inb_t, hb, cond_true, cond_false, Bool.and_self]
  rw [bnd (show Int.toNat (a : Int) ≤ 200000 by omega), Int.toNat_natCast]
  rfl
theorem join5 {α : Type} (r : Nat → Nat → PV) (h0 : 0 < lenOf (r 0 0)) (h1 : lenOf (r 0 0) + lenOf (r 1 0) + lenOf (r 2 0) + lenOf (r 3 0) + lenOf (r 4 0) ≤ 100000) (k0 : (Nat → Nat → PV) → Option α) (k1 : (Nat → Nat → PV) → Nat → (Nat → Nat → PV) → Option α) :
    frame_join r k0 k1 = k1 r (e61 r) (e60 r zrow) := by
  unfold frame_join frame_join_T slices_Concat_byte_byte slices_Concat_byte_byte_T e50 e49
  generalize e61 r = N
  generalize e60 r = E
  generalize lenOf (r 0 0) = n0 at *
  generalize lenOf (r 1 0) = n1 at *
  generalize lenOf (r 2 0) = n2 at *
  generalize lenOf (r 3 0) = n3 at *
  generalize lenOf (r 4 0) = n4 at *
  have w0 : IntKind.i64.wrap (0 + ((n0 : Nat) : Int)) = ((n0 : Nat) : Int) := by rw [i64_id (by omega) (by omega)]; omega
  have w1 : IntKind.i64.wrap (((n0 : Nat) : Int) + ((n1 : Nat) : Int)) = ((n0 + n1 : Nat) : Int) := by rw [i64_id (by omega) (by omega)]; omega
  have w2 : IntKind.i64.wrap (((n0 + n1 : Nat) : Int) + ((n2 : Nat) : Int)) = ((n0 + n1 + n2 : Nat) : Int) := by rw [i64_id (by omega) (by omega)]; omega
  have w3 : IntKind.i64.wrap (((n0 + n1 + n2 : Nat) : Int) + ((n3 : Nat) : Int)) = ((n0 + n1 + n2 + n3 : Nat) : Int) := by rw [i64_id (by omega) (by omega)]; omega
  have w4 : IntKind.i64.wrap (((n0 + n1 + n2 + n3 : Nat) : Int) + ((n4 : Nat) : Int)) = ((n0 + n1 + n2 + n3 + n4 : Nat) : Int) := by rw [i64_id (by omega) (by omega)]; omega
  simp only [w0, w1, w2, w3, w4]
  rw [dec_f (show ¬ ((n0 : Nat) : Int) < 0 by omega), dec_f (show ¬ ((n0 + n1 : Nat) : Int) < 0 by omega), dec_f (show ¬ ((n0 + n1 + n2 : Nat) : Int) < 0 by omega), dec_f (show ¬ ((n0 + n1 + n2 + n3 : Nat) : Int) < 0 by omega), dec_f (show ¬ ((n0 + n1 + n2 + n3 + n4 : Nat) : Int) < 0 by omega), cond_false, cond_false, cond_false, cond_false, cond_false]
  rw [grow _ (by omega) (by omega), bnd (show 0 + n0 ≤ 200000 by omega), bnd (show 0 + n0 + n1 ≤ 200000 by omega), bnd (show 0 + n0 + n1 + n2 ≤ 200000 by omega), bnd (show 0 + n0 + n1 + n2 + n3 ≤ 200000 by omega), bnd (show 0 + n0 + n1 + n2 + n3 + n4 ≤ 200000 by omega), ble_true (show 0 ≤ n0 + n1 + n2 + n3 + n4 by omega)]
  rfl
theorem group_ex (a : Int) : ∃ x : Bool, ∀ (α : Type) (k : Bool → Option α), mac_Group a k = k x := by
  unfold mac_Group mac_Group_T
  generalize (shrI .u64 a 48 == 0) = c1
  cases c1 <;> exact ⟨_, fun _ _ => rfl⟩
theorem orw8 (x c : Int) (h0 : 0 ≤ x) (h1 : x < 72057594037927936) (hc : 0 ≤ c) (hc1 : c < 256) : bits .or .u64 (shlI .u64 x 8) (IntKind.u64.wrap c) = x * 256 + c := by
  rw [u64_id hc (by omega), or_add x c hc hc1, shl8, u64_id (by omega) (by omega)]
  omega
theorem eight (a : Int) (h0 : 0 ≤ a) (h1 : a < 18446744073709551616) : bits .or .u64 (shlI .u64 (bits .or .u64 (shlI .u64 (bits .or .u64 (shlI .u64 (bits .or .u64 (shlI .u64 (bits .or .u64 (shlI .u64 (bits .or .u64 (shlI .u64 (bits .or .u64 (shlI .u64 (bits .or .u64 0 (IntKind.u64.wrap (a / 72057594037927936 % 256))) 8) (IntKind.u64.wrap (a / 281474976710656 % 256))) 8) (IntKind.u64.wrap (a / 1099511627776 % 256))) 8) (IntKind.u64.wrap (a / 4294967296 % 256))) 8) (IntKind.u64.wrap (a / 16777216 % 256))) 8) (IntKind.u64.wrap (a / 65536 % 256))) 8) (IntKind.u64.wrap (a / 256 % 256))) 8) (IntKind.u64.wrap (a % 256)) = a := by
  rw [orv0 (a / 72057594037927936 % 256) (by omega) (by omega)]
  rw [show a / 72057594037927936 % 256 = a / 72057594037927936 by omega]
  rw [orw8 (a / 72057594037927936) (a / 281474976710656 % 256) (by omega) (by omega) (by omega) (by omega)]
  rw [show a / 72057594037927936 * 256 + a / 281474976710656 % 256 = a / 281474976710656 by omega]
  rw [orw8 (a / 281474976710656) (a / 1099511627776 % 256) (by omega) (by omega) (by omega) (by omega)]
  rw [show a / 281474976710656 * 256 + a / 1099511627776 % 256 = a / 1099511627776 by omega]
  rw [orw8 (a / 1099511627776) (a / 4294967296 % 256) (by omega) (by omega) (by omega) (by omega)]
  rw [show a / 1099511627776 * 256 + a / 4294967296 % 256 = a / 4294967296 by omega]
  rw [orw8 (a / 4294967296) (a / 16777216 % 256) (by omega) (by omega) (by omega) (by omega)]
  rw [show a / 4294967296 * 256 + a / 16777216 % 256 = a / 16777216 by omega]
  rw [orw8 (a / 16777216) (a / 65536 % 256) (by omega) (by omega) (by omega) (by omega)]
  rw [show a / 16777216 * 256 + a / 65536 % 256 = a / 65536 by omega]
  rw [orw8 (a / 65536) (a / 256 % 256) (by omega) (by omega) (by omega) (by omega)]
  rw [show a / 65536 * 256 + a / 256 % 256 = a / 256 by omega]
  rw [orw8 (a / 256) (a % 256) (by omega) (by omega) (by omega) (by omega)]
  omega
theorem four (a : Int) (h0 : 0 ≤ a) (h1 : a < 4294967296) : bits .or .u64 (shlI .u64 (bits .or .u64 (shlI .u64 (bits .or .u64 (shlI .u64 (bits .or .u64 0 (IntKind.u64.wrap (a / 16777216 % 256))) 8) (IntKind.u64.wrap (a / 65536 % 256))) 8) (IntKind.u64.wrap (a / 256 % 256))) 8) (IntKind.u64.wrap (a % 256)) = a := by
  rw [orv0 (a / 16777216 % 256) (by omega) (by omega)]
  rw [show a / 16777216 % 256 = a / 16777216 by omega]
  rw [orw8 (a / 16777216) (a / 65536 % 256) (by omega) (by omega) (by omega) (by omega)]
  rw [show a / 16777216 * 256 + a / 65536 % 256 = a / 65536 by omega]
  rw [orw8 (a / 65536) (a / 256 % 256) (by omega) (by omega) (by omega) (by omega)]
  rw [show a / 65536 * 256 + a / 256 % 256 = a / 256 by omega]
  rw [orw8 (a / 256) (a % 256) (by omega) (by omega) (by omega) (by omega)]
  omega
theorem pair (a : Int) (h0 : 0 ≤ a) (h1 : a < 65536) : bits .or .u64 (shlI .u64 (bits .or .u64 0 (IntKind.u64.wrap (a / 256 % 256))) 8) (IntKind.u64.wrap (a % 256)) = a := by
  rw [orv0 (a / 256 % 256) (by omega) (by omega)]
  rw [show a / 256 % 256 = a / 256 by omega]
  rw [orw8 (a / 256) (a % 256) (by omega) (by omega) (by omega) (by omega)]
  omega
theorem b56 (x : Int) : IntKind.u8.wrap (shrI .u64 x 56) = x / 72057594037927936 % 256 := by
  have e : shrI .u64 x 56 = x / 72057594037927936 := shr_div .u64 x 56 (by decide)
  rw [e, wrap_u8]
theorem b48 (x : Int) : IntKind.u8.wrap (shrI .u64 x 48) = x / 281474976710656 % 256 := by
  have e : shrI .u64 x 48 = x / 281474976710656 := shr_div .u64 x 48 (by decide)
  rw [e, wrap_u8]
/-- a message's bytes -/
structure Says (r : Nat → Nat → PV) (rt co br po ag ro : Int) (g h i j l : Bool) : Prop where
  m0 : numOf (r 0 0) = 66
  m1 : numOf (r 1 0) = 66
  m2 : numOf (r 2 0) = 3
  m3 : numOf (r 3 0) = 0
  m4 : numOf (r 4 0) = 0
  m5 : numOf (r 5 0) = 2
  m6 : numOf (r 6 0) = 2
  f1 : IntKind.i64.wrap (e83 r) = ro ∧ e85 r = g ∧ e86 r = h ∧ e87 r = i ∧ e88 r = j ∧ e84 r = l ∧ e89 r = 0
  rt0 : numOf (r 8 0) = rt / 72057594037927936 % 256
  rt1 : numOf (r 9 0) = rt / 281474976710656 % 256
  rt2 : numOf (r 10 0) = rt / 1099511627776 % 256
  rt3 : numOf (r 11 0) = rt / 4294967296 % 256
  rt4 : numOf (r 12 0) = rt / 16777216 % 256
  rt5 : numOf (r 13 0) = rt / 65536 % 256
  rt6 : numOf (r 14 0) = rt / 256 % 256
  rt7 : numOf (r 15 0) = rt % 256
  co0 : numOf (r 16 0) = co / 16777216 % 256
  co1 : numOf (r 17 0) = co / 65536 % 256
  co2 : numOf (r 18 0) = co / 256 % 256
  co3 : numOf (r 19 0) = co % 256
  br0 : numOf (r 20 0) = br / 72057594037927936 % 256
  br1 : numOf (r 21 0) = br / 281474976710656 % 256
  br2 : numOf (r 22 0) = br / 1099511627776 % 256
  br3 : numOf (r 23 0) = br / 4294967296 % 256
  br4 : numOf (r 24 0) = br / 16777216 % 256
  br5 : numOf (r 25 0) = br / 65536 % 256
  br6 : numOf (r 26 0) = br / 256 % 256
  br7 : numOf (r 27 0) = br % 256
  po0 : numOf (r 28 0) = po / 256 % 256
  po1 : numOf (r 29 0) = po % 256
  ag0 : numOf (r 30 0) = ag / 256 % 256
  ag1 : numOf (r 31 0) = ag % 256
theorem flag_l (x : Bool) (α : Type) (k : Int → Option α) : bpdu_flag x k = k (bif x then 1 else 0) := by cases x <;> rfl
theorem flag_g (x : Bool) (α : Type) (k : Int → Option α) : bpdu_flag_v1 x k = k (bif x then 2 else 0) := by cases x <;> rfl
theorem flag_i (x : Bool) (α : Type) (k : Int → Option α) : bpdu_flag_v2 x k = k (bif x then 16 else 0) := by cases x <;> rfl
theorem flag_j (x : Bool) (α : Type) (k : Int → Option α) : bpdu_flag_v3 x k = k (bif x then 32 else 0) := by cases x <;> rfl
theorem flag_h (x : Bool) (α : Type) (k : Int → Option α) : bpdu_flag_v4 x k = k (bif x then 64 else 0) := by cases x <;> rfl
def fb (ro : Int) (g h i j l : Bool) : Int := IntKind.u8.wrap (bits .or .u64 0 (IntKind.u64.wrap (IntKind.u8.wrap (e3 (bif l then 1 else 0) (bif g then 2 else 0) ro (bif i then 16 else 0) (bif j then 32 else 0) (bif h then 64 else 0)))))
theorem flags (ro : Int) (h1 : 1 ≤ ro) (h3 : ro ≤ 3) (g h i j l : Bool) : IntKind.i64.wrap (bits .and .u8 (shrI .u8 (fb ro g h i j l) 2) 3) = ro ∧ ((bits .and .u8 (fb ro g h i j l) 2) != 0) = g ∧ ((bits .and .u8 (fb ro g h i j l) 64) != 0) = h ∧ ((bits .and .u8 (fb ro g h i j l) 16) != 0) = i ∧ ((bits .and .u8 (fb ro g h i j l) 32) != 0) = j ∧ ((bits .and .u8 (fb ro g h i j l) 1) != 0) = l ∧ bits .and .u8 (fb ro g h i j l) 128 = 0 := by
  have : ro = 1 ∨ ro = 2 ∨ ro = 3 := by omega
  rcases this with rfl | rfl | rfl <;> cases g <;> cases h <;> cases i <;> cases j <;> cases l <;> exact ⟨by kernel_rfl, by kernel_rfl, by kernel_rfl, by kernel_rfl, by kernel_rfl, by kernel_rfl, by kernel_rfl⟩
structure Fine (rt co br po ag ro : Int) : Prop where
  rt0 : 0 ≤ rt
  rt1 : rt < 18446744073709551616
  co0 : 0 ≤ co
  co1 : co < 4294967296
  br0 : 0 ≤ br
  br1 : br < 18446744073709551616
  po0 : 0 ≤ po
  po1 : po < 65536
  ag0 : 0 ≤ ag
  ag1 : ag < 65536
  ro0 : 1 ≤ ro
  ro1 : ro ≤ 3
theorem says (rt co br po ag ro : Int) (g h i j l : Bool) (hf : Fine rt co br po ag ro) : Says (e47 (bif l then 1 else 0) (bif g then 2 else 0) ro (bif i then 16 else 0) (bif j then 32 else 0) (bif h then 64 else 0) rt co br po ag) rt co br po ag ro g h i j l := by
  have m0 : numOf ((e47 (bif l then 1 else 0) (bif g then 2 else 0) ro (bif i then 16 else 0) (bif j then 32 else 0) (bif h then 64 else 0) rt co br po ag) 0 0) = 66 := by kernel_rfl
  have m1 : numOf ((e47 (bif l then 1 else 0) (bif g then 2 else 0) ro (bif i then 16 else 0) (bif j then 32 else 0) (bif h then 64 else 0) rt co br po ag) 1 0) = 66 := by kernel_rfl
  have m2 : numOf ((e47 (bif l then 1 else 0) (bif g then 2 else 0) ro (bif i then 16 else 0) (bif j then 32 else 0) (bif h then 64 else 0) rt co br po ag) 2 0) = 3 := by kernel_rfl
  have m3 : numOf ((e47 (bif l then 1 else 0) (bif g then 2 else 0) ro (bif i then 16 else 0) (bif j then 32 else 0) (bif h then 64 else 0) rt co br po ag) 3 0) = 0 := by kernel_rfl
  have m4 : numOf ((e47 (bif l then 1 else 0) (bif g then 2 else 0) ro (bif i then 16 else 0) (bif j then 32 else 0) (bif h then 64 else 0) rt co br po ag) 4 0) = 0 := by kernel_rfl
  have m5 : numOf ((e47 (bif l then 1 else 0) (bif g then 2 else 0) ro (bif i then 16 else 0) (bif j then 32 else 0) (bif h then 64 else 0) rt co br po ag) 5 0) = 2 := by kernel_rfl
  have m6 : numOf ((e47 (bif l then 1 else 0) (bif g then 2 else 0) ro (bif i then 16 else 0) (bif j then 32 else 0) (bif h then 64 else 0) rt co br po ag) 6 0) = 2 := by kernel_rfl
  have q : numOf ((e47 (bif l then 1 else 0) (bif g then 2 else 0) ro (bif i then 16 else 0) (bif j then 32 else 0) (bif h then 64 else 0) rt co br po ag) 7 0) = IntKind.u8.wrap (e3 (bif l then 1 else 0) (bif g then 2 else 0) ro (bif i then 16 else 0) (bif j then 32 else 0) (bif h then 64 else 0)) := by kernel_rfl
  have rt0 : numOf ((e47 (bif l then 1 else 0) (bif g then 2 else 0) ro (bif i then 16 else 0) (bif j then 32 else 0) (bif h then 64 else 0) rt co br po ag) 8 0) = IntKind.u8.wrap (shrI .u64 rt 56) := by kernel_rfl
  have rt1 : numOf ((e47 (bif l then 1 else 0) (bif g then 2 else 0) ro (bif i then 16 else 0) (bif j then 32 else 0) (bif h then 64 else 0) rt co br po ag) 9 0) = IntKind.u8.wrap (shrI .u64 rt 48) := by kernel_rfl
  have rt2 : numOf ((e47 (bif l then 1 else 0) (bif g then 2 else 0) ro (bif i then 16 else 0) (bif j then 32 else 0) (bif h then 64 else 0) rt co br po ag) 10 0) = IntKind.u8.wrap (shrI .u64 rt 40) := by kernel_rfl
  have rt3 : numOf ((e47 (bif l then 1 else 0) (bif g then 2 else 0) ro (bif i then 16 else 0) (bif j then 32 else 0) (bif h then 64 else 0) rt co br po ag) 11 0) = IntKind.u8.wrap (shrI .u64 rt 32) := by kernel_rfl
  have rt4 : numOf ((e47 (bif l then 1 else 0) (bif g then 2 else 0) ro (bif i then 16 else 0) (bif j then 32 else 0) (bif h then 64 else 0) rt co br po ag) 12 0) = IntKind.u8.wrap (shrI .u64 rt 24) := by kernel_rfl
  have rt5 : numOf ((e47 (bif l then 1 else 0) (bif g then 2 else 0) ro (bif i then 16 else 0) (bif j then 32 else 0) (bif h then 64 else 0) rt co br po ag) 13 0) = IntKind.u8.wrap (shrI .u64 rt 16) := by kernel_rfl
  have rt6 : numOf ((e47 (bif l then 1 else 0) (bif g then 2 else 0) ro (bif i then 16 else 0) (bif j then 32 else 0) (bif h then 64 else 0) rt co br po ag) 14 0) = IntKind.u8.wrap (shrI .u64 rt 8) := by kernel_rfl
  have rt7 : numOf ((e47 (bif l then 1 else 0) (bif g then 2 else 0) ro (bif i then 16 else 0) (bif j then 32 else 0) (bif h then 64 else 0) rt co br po ag) 15 0) = IntKind.u8.wrap (shrI .u64 rt 0) := by kernel_rfl
  have co0 : numOf ((e47 (bif l then 1 else 0) (bif g then 2 else 0) ro (bif i then 16 else 0) (bif j then 32 else 0) (bif h then 64 else 0) rt co br po ag) 16 0) = IntKind.u8.wrap (shrI .u64 (IntKind.u64.wrap co) 24) := by kernel_rfl
  rw [u64_id hf.co0 (Int.lt_trans hf.co1 (by decide))] at co0
  have co1 : numOf ((e47 (bif l then 1 else 0) (bif g then 2 else 0) ro (bif i then 16 else 0) (bif j then 32 else 0) (bif h then 64 else 0) rt co br po ag) 17 0) = IntKind.u8.wrap (shrI .u64 (IntKind.u64.wrap co) 16) := by kernel_rfl
  rw [u64_id hf.co0 (Int.lt_trans hf.co1 (by decide))] at co1
  have co2 : numOf ((e47 (bif l then 1 else 0) (bif g then 2 else 0) ro (bif i then 16 else 0) (bif j then 32 else 0) (bif h then 64 else 0) rt co br po ag) 18 0) = IntKind.u8.wrap (shrI .u64 (IntKind.u64.wrap co) 8) := by kernel_rfl
  rw [u64_id hf.co0 (Int.lt_trans hf.co1 (by decide))] at co2
  have co3 : numOf ((e47 (bif l then 1 else 0) (bif g then 2 else 0) ro (bif i then 16 else 0) (bif j then 32 else 0) (bif h then 64 else 0) rt co br po ag) 19 0) = IntKind.u8.wrap (shrI .u64 (IntKind.u64.wrap co) 0) := by kernel_rfl
  rw [u64_id hf.co0 (Int.lt_trans hf.co1 (by decide))] at co3
  have br0 : numOf ((e47 (bif l then 1 else 0) (bif g then 2 else 0) ro (bif i then 16 else 0) (bif j then 32 else 0) (bif h then 64 else 0) rt co br po ag) 20 0) = IntKind.u8.wrap (shrI .u64 br 56) := by kernel_rfl
  have br1 : numOf ((e47 (bif l then 1 else 0) (bif g then 2 else 0) ro (bif i then 16 else 0) (bif j then 32 else 0) (bif h then 64 else 0) rt co br po ag) 21 0) = IntKind.u8.wrap (shrI .u64 br 48) := by kernel_rfl
  have br2 : numOf ((e47 (bif l then 1 else 0) (bif g then 2 else 0) ro (bif i then 16 else 0) (bif j then 32 else 0) (bif h then 64 else 0) rt co br po ag) 22 0) = IntKind.u8.wrap (shrI .u64 br 40) := by kernel_rfl
  have br3 : numOf ((e47 (bif l then 1 else 0) (bif g then 2 else 0) ro (bif i then 16 else 0) (bif j then 32 else 0) (bif h then 64 else 0) rt co br po ag) 23 0) = IntKind.u8.wrap (shrI .u64 br 32) := by kernel_rfl
  have br4 : numOf ((e47 (bif l then 1 else 0) (bif g then 2 else 0) ro (bif i then 16 else 0) (bif j then 32 else 0) (bif h then 64 else 0) rt co br po ag) 24 0) = IntKind.u8.wrap (shrI .u64 br 24) := by kernel_rfl
  have br5 : numOf ((e47 (bif l then 1 else 0) (bif g then 2 else 0) ro (bif i then 16 else 0) (bif j then 32 else 0) (bif h then 64 else 0) rt co br po ag) 25 0) = IntKind.u8.wrap (shrI .u64 br 16) := by kernel_rfl
  have br6 : numOf ((e47 (bif l then 1 else 0) (bif g then 2 else 0) ro (bif i then 16 else 0) (bif j then 32 else 0) (bif h then 64 else 0) rt co br po ag) 26 0) = IntKind.u8.wrap (shrI .u64 br 8) := by kernel_rfl
  have br7 : numOf ((e47 (bif l then 1 else 0) (bif g then 2 else 0) ro (bif i then 16 else 0) (bif j then 32 else 0) (bif h then 64 else 0) rt co br po ag) 27 0) = IntKind.u8.wrap (shrI .u64 br 0) := by kernel_rfl
  have po0 : numOf ((e47 (bif l then 1 else 0) (bif g then 2 else 0) ro (bif i then 16 else 0) (bif j then 32 else 0) (bif h then 64 else 0) rt co br po ag) 28 0) = IntKind.u8.wrap (shrI .u64 (IntKind.u64.wrap po) 8) := by kernel_rfl
  rw [u64_id hf.po0 (Int.lt_trans hf.po1 (by decide))] at po0
  have po1 : numOf ((e47 (bif l then 1 else 0) (bif g then 2 else 0) ro (bif i then 16 else 0) (bif j then 32 else 0) (bif h then 64 else 0) rt co br po ag) 29 0) = IntKind.u8.wrap (shrI .u64 (IntKind.u64.wrap po) 0) := by kernel_rfl
  rw [u64_id hf.po0 (Int.lt_trans hf.po1 (by decide))] at po1
  have ag0 : numOf ((e47 (bif l then 1 else 0) (bif g then 2 else 0) ro (bif i then 16 else 0) (bif j then 32 else 0) (bif h then 64 else 0) rt co br po ag) 30 0) = IntKind.u8.wrap (shrI .u64 (IntKind.u64.wrap ag) 8) := by kernel_rfl
  rw [u64_id hf.ag0 (Int.lt_trans hf.ag1 (by decide))] at ag0
  have ag1 : numOf ((e47 (bif l then 1 else 0) (bif g then 2 else 0) ro (bif i then 16 else 0) (bif j then 32 else 0) (bif h then 64 else 0) rt co br po ag) 31 0) = IntKind.u8.wrap (shrI .u64 (IntKind.u64.wrap ag) 0) := by kernel_rfl
  rw [u64_id hf.ag0 (Int.lt_trans hf.ag1 (by decide))] at ag1
  refine ⟨m0, m1, m2, m3, m4, m5, m6, ?_, (rt0.trans (b56 rt)), (rt1.trans (b48 rt)), (rt2.trans (b40 rt)), (rt3.trans (b32 rt)), (rt4.trans (b24 rt)), (rt5.trans (b16 rt)), (rt6.trans (b8 rt)), (rt7.trans (b0 rt)), (co0.trans (b24 co)), (co1.trans (b16 co)), (co2.trans (b8 co)), (co3.trans (b0 co)), (br0.trans (b56 br)), (br1.trans (b48 br)), (br2.trans (b40 br)), (br3.trans (b32 br)), (br4.trans (b24 br)), (br5.trans (b16 br)), (br6.trans (b8 br)), (br7.trans (b0 br)), (po0.trans (b8 po)), (po1.trans (b0 po)), (ag0.trans (b8 ag)), (ag1.trans (b0 ag))⟩
  unfold e83 e84 e85 e86 e87 e88 e89
  rw [q]
  exact flags ro hf.ro0 hf.ro1 g h i j l
theorem vals {r : Nat → Nat → PV} {rt co br po ag ro : Int} {g h i j l : Bool} (hr : Says r rt co br po ag ro g h i j l) (hf : Fine rt co br po ag ro) : e74 r = rt ∧ IntKind.u32.wrap (e76 r) = co ∧ e80 r = br ∧ IntKind.i64.wrap (e81 r) = po ∧ IntKind.i64.wrap (e82 r) = ag := by
  have h0 := hf.co0
  have h1 := hf.co1
  have h2 := hf.po0
  have h3 := hf.po1
  have h4 := hf.ag0
  have h5 := hf.ag1
  unfold e74 e73 e72 e71 e76 e75 e80 e79 e78 e77 e81 e82
  rw [hr.rt0, hr.rt1, hr.rt2, hr.rt3, hr.rt4, hr.rt5, hr.rt6, hr.rt7, hr.co0, hr.co1, hr.co2, hr.co3, hr.br0, hr.br1, hr.br2, hr.br3, hr.br4, hr.br5, hr.br6, hr.br7, hr.po0, hr.po1, hr.ag0, hr.ag1]
  rw [eight rt hf.rt0 hf.rt1, four co h0 h1, eight br hf.br0 hf.br1, pair po h2 h3, pair ag h4 h5, i64_id (by omega) (by omega), i64_id (by omega) (by omega)]
  refine ⟨rfl, ?_, rfl, rfl, rfl⟩
  rw [IntKind.wrap_u32]
  omega
theorem equal_bad (r : Nat → Nat → PV) (n x : Nat) (hx : x < 7) (hd : numOf (r x 0) ≠ numOf (e1 x 0)) (α : Type) (k0 k1 : Nat → (Nat → Nat → PV) → (Nat → Nat → PV) → Option α) : slices_Equal_byte_byte n r e1 k0 k1 = k0 n r e1 := by
  unfold slices_Equal_byte_byte slices_Equal_byte_byte_T
  by_cases h0 : numOf (r 0 0) = numOf (e1 0 0)
  rotate_left; · rw [bne_iff_ne.2 h0, cond_true]
  rw [h0, bne_self_eq_false, cond_false]
  by_cases h1 : numOf (r 1 0) = numOf (e1 1 0)
  rotate_left; · rw [bne_iff_ne.2 h1, cond_true]
  rw [h1, bne_self_eq_false, cond_false]
  by_cases h2 : numOf (r 2 0) = numOf (e1 2 0)
  rotate_left; · rw [bne_iff_ne.2 h2, cond_true]
  rw [h2, bne_self_eq_false, cond_false]
  by_cases h3 : numOf (r 3 0) = numOf (e1 3 0)
  rotate_left; · rw [bne_iff_ne.2 h3, cond_true]
  rw [h3, bne_self_eq_false, cond_false]
  by_cases h4 : numOf (r 4 0) = numOf (e1 4 0)
  rotate_left; · rw [bne_iff_ne.2 h4, cond_true]
  rw [h4, bne_self_eq_false, cond_false]
  by_cases h5 : numOf (r 5 0) = numOf (e1 5 0)
  rotate_left; · rw [bne_iff_ne.2 h5, cond_true]
  rw [h5, bne_self_eq_false, cond_false]
  by_cases h6 : numOf (r 6 0) = numOf (e1 6 0)
  rotate_left; · rw [bne_iff_ne.2 h6, cond_true]
  rw [h6, bne_self_eq_false, cond_false]
  match x, hx with
  | 0, _ => exact absurd h0 hd
  | 1, _ => exact absurd h1 hd
  | 2, _ => exact absurd h2 hd
  | 3, _ => exact absurd h3 hd
  | 4, _ => exact absurd h4 hd
  | 5, _ => exact absurd h5 hd
  | 6, _ => exact absurd h6 hd
  | x + 7, hx => omega
theorem equal_ok {r : Nat → Nat → PV} {rt co br po ag ro : Int} {g h i j l : Bool} (hr : Says r rt co br po ag ro g h i j l) (n : Nat) (α : Type) (k0 k1 : Nat → (Nat → Nat → PV) → (Nat → Nat → PV) → Option α) : slices_Equal_byte_byte n r e1 k0 k1 = k1 n r e1 := by
  unfold slices_Equal_byte_byte slices_Equal_byte_byte_T
  rw [hr.m0, hr.m1, hr.m2, hr.m3, hr.m4, hr.m5, hr.m6]
  rfl
theorem good2 (s : Int) (hs0 : 0 ≤ s) (hs1 : s < 281474976710656) (hg : ∀ (α : Type) (k : Bool → Option α), mac_Group s k = k false) (m : Nat) (hm : m ≤ 1504) (f : Nat → Nat → PV) (α : Type) (k0 k1 : Nat → (Nat → Nat → PV) → Option α) : frame_Good_v2 1652522221568 s 39 m f k0 k1 = k1 m f := by
  unfold frame_Good_v2 frame_Good_v2_T
  rw [hg, shr48 hs0, dec_t hs1, dec_f (show ¬ (m : Int) > 1504 by omega), shr48 (by decide)]
  rfl
theorem parse_ok {r : Nat → Nat → PV} {rt co br po ag ro : Int} {g h i j l : Bool} (hr : Says r rt co br po ag ro g h i j l) (hf : Fine rt co br po ag ro) (hB : ∀ (α : Type) (k : Bool → Option α), bpdu_Good rt co br po ag ro g h i j l k = k true) (s : Int) (hs0 : 0 ≤ s) (hs1 : s < 281474976710656) (hg : ∀ (α : Type) (k : Bool → Option α), mac_Group s k = k false) (n : Nat) (hn : 39 ≤ n) (hm : n ≤ 1504) (α : Type) (k0 : Nat → (Nat → Nat → PV) → Option α) (k1 : Int → Int → Int → Int → Int → Int → Bool → Bool → Bool → Bool → Bool → Nat → (Nat → Nat → PV) → Option α) : bpdu_Parse_v1 1652522221568 s 39 n r k0 k1 = k1 rt co br po ag ro g h i j l n r := by
  obtain ⟨v0, v1, v2, v3, v4⟩ := vals hr hf
  obtain ⟨w0, w1, w2, w3, w4, w5, w6⟩ := hr.f1
  unfold bpdu_Parse_v1 bpdu_Parse_v1_T
  simp only [good2 s hs0 hs1 hg n hm, equal_ok hr, v0, v1, v2, v3, v4, w0, w1, w2, w3, w4, w5, w6, hB, beq_self_eq_true, bne_self_eq_false, Bool.not_true, cond_false]
  simp (disch := omega) only [dec_f, dec_t, inb_t, cond_true, cond_false]
theorem parse_bad (r : Nat → Nat → PV) (s : Int) (hs0 : 0 ≤ s) (hs1 : s < 281474976710656) (hg : ∀ (α : Type) (k : Bool → Option α), mac_Group s k = k false) (n x : Nat) (hn : 39 ≤ n) (hm : n ≤ 1504) (hx : x < 7) (hd : numOf (r x 0) ≠ numOf (e1 x 0)) (α : Type) (k0 : Nat → (Nat → Nat → PV) → Option α) (k1 : Int → Int → Int → Int → Int → Int → Bool → Bool → Bool → Bool → Bool → Nat → (Nat → Nat → PV) → Option α) : bpdu_Parse_v1 1652522221568 s 39 n r k0 k1 = k0 n r := by
  unfold bpdu_Parse_v1 bpdu_Parse_v1_T
  simp only [good2 s hs0 hs1 hg n hm, equal_bad r n x hx hd, beq_self_eq_true, bne_self_eq_false, Bool.not_true, cond_false]
  simp (disch := omega) only [dec_f, dec_t, inb_t, cond_true, cond_false]
theorem says_of {r r' : Nat → Nat → PV} {rt co br po ag ro : Int} {g h i j l : Bool} (hr : Says r rt co br po ag ro g h i j l) (e : ∀ j, j < 32 → r' j 0 = r j 0) : Says r' rt co br po ag ro g h i j l := by
  refine ⟨?_, ?_, ?_, ?_, ?_, ?_, ?_, ?_, ?_, ?_, ?_, ?_, ?_, ?_, ?_, ?_, ?_, ?_, ?_, ?_, ?_, ?_, ?_, ?_, ?_, ?_, ?_, ?_, ?_, ?_, ?_, ?_⟩
  all_goals first | (rw [e _ (by decide)]; first | exact hr.m0 | exact hr.m1 | exact hr.m2 | exact hr.m3 | exact hr.m4 | exact hr.m5 | exact hr.m6 | exact hr.rt0 | exact hr.rt1 | exact hr.rt2 | exact hr.rt3 | exact hr.rt4 | exact hr.rt5 | exact hr.rt6 | exact hr.rt7 | exact hr.co0 | exact hr.co1 | exact hr.co2 | exact hr.co3 | exact hr.br0 | exact hr.br1 | exact hr.br2 | exact hr.br3 | exact hr.br4 | exact hr.br5 | exact hr.br6 | exact hr.br7 | exact hr.po0 | exact hr.po1 | exact hr.ag0 | exact hr.ag1) | skip
  have := hr.f1
  unfold e83 e84 e85 e86 e87 e88 e89 at this ⊢
  rw [e 7 (by decide)]
  exact this
theorem setf_ne {f : Nat → Nat → PV} {i j : Nat} (h : j ≠ i) (xs : List PV) (o c : Nat) : setf f i o xs j c = f j c := by
  unfold setf
  rw [show Nat.beq j i = false by cases hb : Nat.beq j i with | true => exact absurd (Nat.eq_of_beq_eq_true hb) h | false => rfl]
  rfl
theorem setf_eq (f : Nat → Nat → PV) (i : Nat) (x : PV) : setf f i 0 [x] i 0 = x := by
  unfold setf
  rw [show Nat.beq i i = true from Nat.beq_refl i]
  rfl
theorem xor_ne : ∀ n, n < 256 → bits .xor .u8 66 (bits .or .u8 ((n : Nat) : Int) 1) ≠ 66 ∧ bits .xor .u8 3 (bits .or .u8 ((n : Nat) : Int) 1) ≠ 3 ∧ bits .xor .u8 0 (bits .or .u8 ((n : Nat) : Int) 1) ≠ 0 ∧ bits .xor .u8 2 (bits .or .u8 ((n : Nat) : Int) 1) ≠ 2 := by decide +kernel
theorem enc (s : Int) (r : Nat → Nat → PV) (hs0 : 0 ≤ s) (hs1 : s < 281474976710656) (hg : ∀ (α : Type) (k : Bool → Option α), mac_Group s k = k false) (α : Type) (k0 k1 : (Nat → Nat → PV) → Option α) (k2 : (Nat → Nat → PV) → Nat → (Nat → Nat → PV) → Option α) : frame_Encode s r k0 k1 k2 = k2 r 53 (e60 (e48 s r) zrow) := by
  unfold frame_Encode frame_Encode_T frame_Good frame_Good_T
  have hl : e61 (e48 s r) = 53 := by kernel_rfl
  rw [hg, shr48 hs0, dec_t hs1, cond_false, Bool.not_true, cond_false]
  dsimp only
  rw [join5 (e48 s r) (by show 0 < 6; omega) (by show 6 + 6 + 0 + 2 + 39 ≤ 100000; omega), hl]
theorem parse (s : Int) (r : Nat → Nat → PV) (hs0 : 0 ≤ s) (hs1 : s < 281474976710656) (hg : ∀ (α : Type) (k : Bool → Option α), mac_Group s k = k false) (α : Type) (k0 : Nat → (Nat → Nat → PV) → Option α) (k1 : Int → Int → Int → Int → Int → Nat → (Nat → Nat → PV) → Nat → (Nat → Nat → PV) → Option α) (k2 : Int → Int → Int → Nat → (Nat → Nat → PV) → Nat → (Nat → Nat → PV) → Option α) :
    frame_Parse 53 (e60 (e48 s r) zrow) k0 k1 k2 = k2 1652522221568 s 39 53 (e60 (e48 s r) zrow) 39 r := by
  have x0 : numOf (e60 (e48 s r) zrow 0 0) = 1 := by kernel_rfl
  have x1 : numOf (e60 (e48 s r) zrow 1 0) = 128 := by kernel_rfl
  have x2 : numOf (e60 (e48 s r) zrow 2 0) = 194 := by kernel_rfl
  have x3 : numOf (e60 (e48 s r) zrow 3 0) = 0 := by kernel_rfl
  have x4 : numOf (e60 (e48 s r) zrow 4 0) = 0 := by kernel_rfl
  have x5 : numOf (e60 (e48 s r) zrow 5 0) = 0 := by kernel_rfl
  have y0 : numOf (e60 (e48 s r) zrow 6 0) = IntKind.u8.wrap (shrI .u64 s 40) := by kernel_rfl
  rw [b40] at y0
  have y1 : numOf (e60 (e48 s r) zrow 7 0) = IntKind.u8.wrap (shrI .u64 s 32) := by kernel_rfl
  rw [b32] at y1
  have y2 : numOf (e60 (e48 s r) zrow 8 0) = IntKind.u8.wrap (shrI .u64 s 24) := by kernel_rfl
  rw [b24] at y2
  have y3 : numOf (e60 (e48 s r) zrow 9 0) = IntKind.u8.wrap (shrI .u64 s 16) := by kernel_rfl
  rw [b16] at y3
  have y4 : numOf (e60 (e48 s r) zrow 10 0) = IntKind.u8.wrap (shrI .u64 s 8) := by kernel_rfl
  rw [b8] at y4
  have y5 : numOf (e60 (e48 s r) zrow 11 0) = IntKind.u8.wrap (shrI .u64 s 0) := by kernel_rfl
  rw [b0] at y5
  have m0 : numOf (e60 (e48 s r) zrow 12 0) = 0 := by kernel_rfl
  have m1 : numOf (e60 (e48 s r) zrow 13 0) = 39 := by kernel_rfl
  have ef : (fun j c => e60 (e48 s r) zrow (14 + j) c) = r := by funext j c; exact catf_hi 14 _ _ j c
  have d : e64 (e60 (e48 s r) zrow) = 1652522221568 := by
    unfold e64 e63 e62
    rw [x0, x1, x2, x3, x4, x5]
    kernel_rfl
  have sr : e67 (e60 (e48 s r) zrow) = s := by
    unfold e67 e66 e65
    rw [y0, y1, y2, y3, y4, y5]
    exact six s hs0 hs1
  have kd : e68 (e60 (e48 s r) zrow) = 39 := by
    unfold e68
    rw [m0, m1]
    kernel_rfl
  unfold frame_Parse frame_Parse_T
  simp only [d, sr, kd, ef, catf_zero]
  have hm := good2 s hs0 hs1 hg 39 (by omega)
  rw [show (0 + ((53 - 12) - 2)) = 39 from rfl, hm]
  rfl
theorem bgood_cases (rt co br po ag ro : Int) (g h i j l : Bool) : (∀ (α : Type) (k : Bool → Option α), bpdu_Good rt co br po ag ro g h i j l k = k false) ∨ ((0 ≤ ag ∧ ag ≤ 65535 ∧ 0 ≤ po ∧ po ≤ 65535 ∧ 1 ≤ ro ∧ ro ≤ 3) ∧ ∀ (α : Type) (k : Bool → Option α), bpdu_Good rt co br po ag ro g h i j l k = k true) := by
  unfold bpdu_Good bpdu_Good_T
  by_cases h1 : ag ≥ 0
  rotate_left; · rw [dec_f h1]; exact .inl fun _ _ => rfl
  by_cases h2 : ag ≤ 65535
  rotate_left; · rw [dec_t h1, dec_f h2]; exact .inl fun _ _ => rfl
  by_cases h3 : po ≥ 0
  rotate_left; · rw [dec_t h1, dec_t h2, dec_f h3]; exact .inl fun _ _ => rfl
  by_cases h4 : po ≤ 65535
  rotate_left; · rw [dec_t h1, dec_t h2, dec_t h3, dec_f h4]; exact .inl fun _ _ => rfl
  by_cases h5 : ro ≥ 1
  rotate_left; · rw [dec_t h1, dec_t h2, dec_t h3, dec_t h4, dec_f h5]; exact .inl fun _ _ => rfl
  by_cases h6 : ro ≤ 3
  rotate_left; · rw [dec_t h1, dec_t h2, dec_t h3, dec_t h4, dec_t h5, dec_f h6]; exact .inl fun _ _ => rfl
  rw [dec_t h1, dec_t h2, dec_t h3, dec_t h4, dec_t h5, dec_t h6]
  exact .inr ⟨⟨h1, h2, h3, h4, h5, h6⟩, fun _ _ => rfl⟩
theorem same92 (a b c d e f : Int) (g h i j l : Bool) : e92 a a b b c c d d e e f f g g h h i i j j l l = false := by
  unfold e92 e91 e90
  simp only [beq_self_eq_true, Bool.and_self, Bool.and_true, Bool.not_true]
theorem same99 (a b c d e f : Int) (g h i j l : Bool) : e99 a a b b c c d d e e f f g g h h i i j j l l = true := by
  unfold e99 e98 e97
  simp only [beq_self_eq_true, Bool.and_self, Bool.and_true]
theorem main {α : Type} (a_1 : Int) (a_2 : Int) (a_3 : Int) (a_4 : Int) (a_5 : Int) (a_6 : Int) (a_7 : Int) (a_8 : Bool) (a_9 : Bool) (a_10 : Bool) (a_11 : Bool) (a_12 : Bool) (a_13 : Int) (a_14 : Int) (h_1 : PvOk (.val (.int .u64 a_1))) (h_2 : PvOk (.val (.int .u64 a_2))) (h_3 : PvOk (.val (.int .u32 a_3))) (h_4 : PvOk (.val (.int .u64 a_4))) (h_5 : PvOk (.val (.int .i64 a_5))) (h_6 : PvOk (.val (.int .i64 a_6))) (h_7 : PvOk (.val (.int .i64 a_7))) (h_13 : PvOk (.val (.int .u8 a_13))) (h_14 : PvOk (.val (.int .u8 a_14))) (k0 k1 : Option α) : law11_BpduBack a_1 a_2 a_3 a_4 a_5 a_6 a_7 a_8 a_9 a_10 a_11 a_12 a_13 a_14 k0 k1 = k0 := by
  have hs0 := (pv_u64 h_1).1
  unfold law11_BpduBack law11_BpduBack_T bpdu_Frame bpdu_Frame_T
  rcases bgood_cases a_2 a_3 a_4 a_5 a_6 a_7 a_8 a_9 a_10 a_11 a_12 with hB | ⟨⟨c0, c1, c2, c3, c4, c5⟩, hB⟩
  · rw [hB]; rfl
  rw [hB, Bool.not_true, cond_false, shr48 hs0]
  by_cases hs1 : a_1 < 281474976710656
  rotate_left; · rw [dec_f hs1]; rfl
  rw [dec_t hs1, Bool.not_true, cond_false]
  obtain ⟨gr, hgr⟩ := group_ex a_1
  cases gr with
  | true => rw [hgr]; rfl
  | false =>
  rw [hgr, cond_false, flag_l, flag_g, flag_i, flag_j, flag_h]
  have hf : Fine a_2 a_3 a_4 a_5 a_6 a_7 := by
    have q2 := pv_u64 h_2
    have q3 := pv_u32 h_3
    have q4 := pv_u64 h_4
    exact ⟨q2.1, by omega, q3.1, by omega, q4.1, by omega, c2, by omega, c0, by omega, c4, c5⟩
  have hr := says a_2 a_3 a_4 a_5 a_6 a_7 a_8 a_9 a_10 a_11 a_12 hf
  generalize (e47 (bif a_12 then 1 else 0) (bif a_8 then 2 else 0) a_7 (bif a_10 then 16 else 0) (bif a_11 then 32 else 0) (bif a_9 then 64 else 0) a_2 a_3 a_4 a_5 a_6) = r at hr ⊢
  dsimp only
  rw [enc a_1 r hs0 hs1 hgr, parse a_1 r hs0 hs1 hgr, parse_ok hr hf hB a_1 hs0 hs1 hgr 39 (by omega) (by omega), same92, cond_false]
  have q13 := pv_u8 h_13
  have q14 := pv_u8 h_14
  obtain ⟨n, hn⟩ := Int.eq_ofNat_of_zero_le q13.1
  obtain ⟨m, hm⟩ := Int.eq_ofNat_of_zero_le q14.1
  have hw : (IntKind.i64.wrap a_13).tmod 7 = ((n % 7 : Nat) : Int) := by
    rw [i64_id (by omega) (by omega), hn]
    rfl
  have hw2 : IntKind.i64.wrap (32 + ((n % 7 : Nat) : Int)) = ((32 + n % 7 : Nat) : Int) := by rw [i64_id (by omega) (by omega)]; omega
  have hx : n % 7 < 7 := by omega
  have s1 : Says (e94 r a_13 a_14) a_2 a_3 a_4 a_5 a_6 a_7 a_8 a_9 a_10 a_11 a_12 := by
    refine says_of hr fun j hj => ?_
    unfold e94 e93
    rw [hw, hw2, setf_ne (by rw [Int.toNat_natCast]; omega), catf_lo (by omega), catf_zero]
  have d1 : numOf (e96 r a_13 a_14 (n % 7) 0) ≠ numOf (e1 (n % 7) 0) := by
    unfold e96 e95
    rw [hw, Int.toNat_natCast, setf_eq, catf_zero, hm]
    obtain ⟨z0, z1, z2, z3⟩ := xor_ne m (by omega)
    show bits .xor .u8 _ _ ≠ _
    generalize n % 7 = x at hx
    match x, hx with
    | 0, _ => rw [hr.m0]; exact z0
    | 1, _ => rw [hr.m1]; exact z0
    | 2, _ => rw [hr.m2]; exact z1
    | 3, _ => rw [hr.m3]; exact z2
    | 4, _ => rw [hr.m4]; exact z2
    | 5, _ => rw [hr.m5]; exact z3
    | 6, _ => rw [hr.m6]; exact z3
    | x + 7, hx => omega
  rw [hw, hw2, inb_t (by omega) (by omega), parse_ok s1 hf hB a_1 hs0 hs1 hgr 42 (by omega) (by omega), inb_t (by omega) (by omega), parse_bad _ a_1 hs0 hs1 hgr 39 (n % 7) (by omega) (by omega) hx d1, same99]
  rfl
end Go.Proofs.Ytampnnhdgnhjaaa.BpduBack

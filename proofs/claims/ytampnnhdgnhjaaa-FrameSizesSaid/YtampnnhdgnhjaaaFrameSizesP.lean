/- FrameSizes: what the code comes to answers true: plain numbers and rows, no program in sight. -/
import Derived.Test.YtampnnhdgnhjaaaFrameSizesU
import Derived.Test.YtampnnhdgnhjaaaVe26
set_option linter.unusedVariables false
set_option linter.unusedSimpArgs false
namespace Go.Proofs.Ytampnnhdgnhjaaa.FrameSizes
open Go.Ve
def zrow : Nat → Nat → PV := fun _ j => .val (([.int .u8 0] : List Value).getD j undef)
theorem bnd {n : Nat} (h : n ≤ 200000) : Nat.ble (n * 1) bound = true := ble_true (by unfold bound; omega)
theorem grow {α : Type} (a : Nat) (h0 : 0 < a) (h1 : a ≤ 100000) (k0 : Option α) (k1 : Nat → (Nat → Nat → PV) → Option α) : slices_Grow_byte_byte (a : Int) k0 k1 = k1 a zrow := by
  unfold slices_Grow_byte_byte slices_Grow_byte_byte_T
  have e : IntKind.i64.wrap ((a : Int) - 0) = (a : Int) := by rw [i64_id (by omega) (by omega)]; omega
  have hb : Nat.beq (Int.toNat (a : Int)) 0 = false := by
    cases a with
    | zero => omega
    | succ a => rfl
  simp (disch := omega) only [e, dec_f, dec_t, inb_t, hb, cond_true, cond_false, Bool.and_self]
  rw [bnd (show Int.toNat (a : Int) ≤ 200000 by omega), Int.toNat_natCast]
  rfl
theorem join2 {α : Type} (r : Nat → Nat → PV) (h0 : 0 < lenOf (r 0 0)) (h1 : lenOf (r 0 0) + lenOf (r 1 0) ≤ 100000) (k0 : (Nat → Nat → PV) → Option α) (k1 : (Nat → Nat → PV) → Nat → (Nat → Nat → PV) → Option α) :
    frame_join r k0 k1 = k1 r ((0 + (lenOf (r 0 0))) + (lenOf (r 1 0))) (catf (0 + (lenOf (r 0 0))) (catf 0 zrow (fnOf (r 0 0))) (fnOf (r 1 0))) := by
  unfold frame_join frame_join_T slices_Concat_byte_byte slices_Concat_byte_byte_T e4
  generalize fnOf (r 0 0) = f0
  generalize fnOf (r 1 0) = f1
  generalize lenOf (r 0 0) = n0 at *
  generalize lenOf (r 1 0) = n1 at *
  have w0 : IntKind.i64.wrap (0 + ((n0 : Nat) : Int)) = ((n0 : Nat) : Int) := by rw [i64_id (by omega) (by omega)]; omega
  have w1 : IntKind.i64.wrap (((n0 : Nat) : Int) + ((n1 : Nat) : Int)) = ((n0 + n1 : Nat) : Int) := by rw [i64_id (by omega) (by omega)]; omega
  simp only [w0, w1]
  rw [dec_f (show ¬ ((n0 : Nat) : Int) < 0 by omega), dec_f (show ¬ ((n0 + n1 : Nat) : Int) < 0 by omega), cond_false, cond_false]
  rw [grow _ (by omega) (by omega), bnd (show 0 + n0 ≤ 200000 by omega), bnd (show 0 + n0 + n1 ≤ 200000 by omega), ble_true (show 0 ≤ n0 + n1 by omega)]
  rfl
theorem join5 {α : Type} (r : Nat → Nat → PV) (h0 : 0 < lenOf (r 0 0)) (h1 : lenOf (r 0 0) + lenOf (r 1 0) + lenOf (r 2 0) + lenOf (r 3 0) + lenOf (r 4 0) ≤ 100000) (k0 : (Nat → Nat → PV) → Option α) (k1 : (Nat → Nat → PV) → Nat → (Nat → Nat → PV) → Option α) :
    frame_join_v1 r k0 k1 = k1 r (e17 r) (e16 r zrow) := by
  unfold frame_join_v1 frame_join_v1_T slices_Concat_byte_byte_v1 slices_Concat_byte_byte_v1_T e6 e4
  generalize e17 r = N
  generalize e16 r = E
  generalize lenOf (r 0 0) = n0 at *
  generalize lenOf (r 1 0) = n1 at *
  generalize lenOf (r 2 0) = n2 at *
  generalize lenOf (r 3 0) = n3 at *
  generalize lenOf (r 4 0) = n4 at *
  have w0 : IntKind.i64.wrap (0 + ((n0 : Nat) : Int)) = ((n0 : Nat) : Int) := by rw [i64_id (by omega) (by omega)]; omega
  have w1 : IntKind.i64.wrap (((n0 : Nat) : Int) + ((n1 : Nat) : Int)) = ((n0 + n1 : Nat) : Int) := by rw [i64_id (by omega) (by omega)]; omega
  have w2 : IntKind.i64.wrap (((n0 + n1 : Nat) : Int) + ((n2 : Nat) : Int)) = ((n0 + n1 + n2 : Nat) : Int) := by rw [i64_id (by omega) (by omega)]; omega
  have w3 : IntKind.i64.wrap (((n0 + n1 + n2 : Nat) : Int) + ((n3 : Nat) : Int)) = ((n0 + n1 + n2 + n3 : Nat) : Int) := by rw [i64_id (by omega) (by omega)]; omega
  have w4 : IntKind.i64.wrap (((n0 + n1 + n2 + n3 : Nat) : Int) + ((n4 : Nat) : Int)) = ((n0 + n1 + n2 + n3 + n4 : Nat) : Int) := by rw [i64_id (by omega) (by omega)]; omega
  simp only [w0, w1, w2, w3, w4]
  rw [dec_f (show ¬ ((n0 : Nat) : Int) < 0 by omega), dec_f (show ¬ ((n0 + n1 : Nat) : Int) < 0 by omega), dec_f (show ¬ ((n0 + n1 + n2 : Nat) : Int) < 0 by omega), dec_f (show ¬ ((n0 + n1 + n2 + n3 : Nat) : Int) < 0 by omega), dec_f (show ¬ ((n0 + n1 + n2 + n3 + n4 : Nat) : Int) < 0 by omega), cond_false, cond_false, cond_false, cond_false, cond_false]
  rw [grow _ (by omega) (by omega), bnd (show 0 + n0 ≤ 200000 by omega), bnd (show 0 + n0 + n1 ≤ 200000 by omega), bnd (show 0 + n0 + n1 + n2 ≤ 200000 by omega), bnd (show 0 + n0 + n1 + n2 + n3 ≤ 200000 by omega), bnd (show 0 + n0 + n1 + n2 + n3 + n4 ≤ 200000 by omega), ble_true (show 0 ≤ n0 + n1 + n2 + n3 + n4 by omega)]
  rfl
theorem group_ex (a : Int) : ∃ x : Bool, ∀ (α : Type) (k : Bool → Option α), mac_Group a k = k x := by
  unfold mac_Group mac_Group_T
  generalize (shrI .u64 a 48 == 0) = c1
  cases c1 <;> exact ⟨_, fun _ _ => rfl⟩
/-- what Good frames are -/
structure Fit (a b : Int) (t : Bool) (p v kd : Int) (n : Nat) : Prop where
  d : a < 281474976710656
  s : b < 281474976710656
  g : ∀ (α : Type) (k : Bool → Option α), mac_Group b k = k false
  k0 : 0 ≤ kd
  k1 : kd < 65536
  k2 : kd ≠ 33024
  bare : t = false → n ≤ 1504 ∧ p = 0 ∧ v = 0
  tag : t = true → n ≤ 1500 ∧ 0 ≤ p ∧ p < 8 ∧ 0 ≤ v ∧ v < 4096
theorem good_cases (a b : Int) (t : Bool) (p v kd : Int) (nl : Bool) (n : Nat) (f : Nat → Nat → PV) (ha : 0 ≤ a) (hb : 0 ≤ b) :
    (∀ (α : Type) (k : Bool → Option α), frame_Good a b t p v kd nl n f k = k false) ∨ (Fit a b t p v kd n ∧ ∀ (α : Type) (k : Bool → Option α), frame_Good a b t p v kd nl n f k = k true) := by
  obtain ⟨g, hg⟩ := group_ex b
  unfold frame_Good frame_Good_T frame_room frame_room_T
  simp only [hg, shr48 ha, shr48 hb]
  by_cases h1 : a < 281474976710656
  rotate_left; · rw [dec_f h1]; exact .inl fun _ _ => rfl
  by_cases h2 : b < 281474976710656
  rotate_left; · rw [dec_f h2]; exact .inl fun _ _ => by rw [dec_t h1]; rfl
  rw [dec_t h1, dec_t h2]
  cases g with
  | true => exact .inl fun _ _ => rfl
  | false =>
  by_cases h3 : kd < 0
  · rw [dec_t h3]; exact .inl fun _ _ => rfl
  by_cases h4 : kd ≥ 65536
  · rw [dec_t h4, dec_f h3]; exact .inl fun _ _ => rfl
  rw [dec_f h3, dec_f h4]
  by_cases h5 : kd = 33024
  · rw [h5]; exact .inl fun _ _ => rfl
  rw [beq_eq_false_iff_ne.2 h5]
  cases t with
  | false =>
    simp only [cond_true, cond_false, Bool.not_true, Bool.not_false]
    by_cases h6 : (n : Int) > 1504
    · rw [dec_t h6]; exact .inl fun _ _ => rfl
    rw [dec_f h6]
    by_cases h7 : p = 0
    rotate_left; · rw [beq_eq_false_iff_ne.2 h7]; exact .inl fun _ _ => rfl
    by_cases h8 : v = 0
    rotate_left; · rw [h7, beq_eq_false_iff_ne.2 h8]; exact .inl fun _ _ => rfl
    rw [h7, h8]
    exact .inr ⟨⟨h1, h2, fun α k => hg α k, by omega, by omega, h5, fun _ => ⟨by omega, rfl, rfl⟩, fun h => by cases h⟩, fun _ _ => rfl⟩
  | true =>
    simp only [cond_true, cond_false, Bool.not_true, Bool.not_false]
    by_cases h6 : (n : Int) > 1500
    · rw [dec_t h6]; exact .inl fun _ _ => rfl
    rw [dec_f h6]
    by_cases h7 : p ≥ 0
    rotate_left; · rw [dec_f h7]; exact .inl fun _ _ => rfl
    by_cases h8 : p < 8
    rotate_left; · rw [dec_t h7, dec_f h8]; exact .inl fun _ _ => rfl
    by_cases h9 : v ≥ 0
    rotate_left; · rw [dec_t h7, dec_t h8, dec_f h9]; exact .inl fun _ _ => rfl
    by_cases h10 : v < 4096
    rotate_left; · rw [dec_t h7, dec_t h8, dec_t h9, dec_f h10]; exact .inl fun _ _ => rfl
    rw [dec_t h7, dec_t h8, dec_t h9, dec_t h10]
    exact .inr ⟨⟨h1, h2, fun α k => hg α k, by omega, by omega, h5, (fun h => by cases h), fun _ => ⟨by omega, by omega, by omega, by omega, by omega⟩⟩, fun _ _ => rfl⟩
/-- a frame's bytes: N of them, the row g -/
structure Bytes (a b : Int) (t : Bool) (p v kd : Int) (n : Nat) (f : Nat → Nat → PV) (N : Nat) (g : Nat → Nat → PV) : Prop where
  len : N = (bif t then 18 else 14) + n
  x0 : numOf (g 0 0) = a / 1099511627776 % 256
  x1 : numOf (g 1 0) = a / 4294967296 % 256
  x2 : numOf (g 2 0) = a / 16777216 % 256
  x3 : numOf (g 3 0) = a / 65536 % 256
  x4 : numOf (g 4 0) = a / 256 % 256
  x5 : numOf (g 5 0) = a % 256
  y0 : numOf (g 6 0) = b / 1099511627776 % 256
  y1 : numOf (g 7 0) = b / 4294967296 % 256
  y2 : numOf (g 8 0) = b / 16777216 % 256
  y3 : numOf (g 9 0) = b / 65536 % 256
  y4 : numOf (g 10 0) = b / 256 % 256
  y5 : numOf (g 11 0) = b % 256
  m : t = true → numOf (g 12 0) = 129 ∧ numOf (g 13 0) = 0 ∧ numOf (g 14 0) = (p * 8192 + v) / 256 ∧ numOf (g 15 0) = (p * 8192 + v) % 256 ∧ numOf (g 16 0) = kd / 256 ∧ numOf (g 17 0) = kd % 256 ∧ ∀ j c, g (18 + j) c = f j c
  w : t = false → numOf (g 12 0) = kd / 256 ∧ numOf (g 13 0) = kd % 256 ∧ ∀ j c, g (14 + j) c = f j c
theorem bytes_true (a b p v kd : Int) (nl : Bool) (n : Nat) (f : Nat → Nat → PV) (h : Fit a b true p v kd n) : Bytes a b true p v kd n f (e17 (e18 a b ((0 + 2) + 2) (catf (0 + 2) (catf 0 zrow (rowOf 1 [.val (.int .u8 129), .val (.int .u8 0)])) (e2 p v)) kd nl n f)) (e16 (e18 a b ((0 + 2) + 2) (catf (0 + 2) (catf 0 zrow (rowOf 1 [.val (.int .u8 129), .val (.int .u8 0)])) (e2 p v)) kd nl n f) zrow) := by
  have hk0 := h.k0
  have hk1 := h.k1
  have x0 : numOf (e16 (e18 a b ((0 + 2) + 2) (catf (0 + 2) (catf 0 zrow (rowOf 1 [.val (.int .u8 129), .val (.int .u8 0)])) (e2 p v)) kd nl n f) zrow 0 0) = IntKind.u8.wrap (shrI .u64 a 40) := by kernel_rfl
  have y0 : numOf (e16 (e18 a b ((0 + 2) + 2) (catf (0 + 2) (catf 0 zrow (rowOf 1 [.val (.int .u8 129), .val (.int .u8 0)])) (e2 p v)) kd nl n f) zrow 6 0) = IntKind.u8.wrap (shrI .u64 b 40) := by kernel_rfl
  have x1 : numOf (e16 (e18 a b ((0 + 2) + 2) (catf (0 + 2) (catf 0 zrow (rowOf 1 [.val (.int .u8 129), .val (.int .u8 0)])) (e2 p v)) kd nl n f) zrow 1 0) = IntKind.u8.wrap (shrI .u64 a 32) := by kernel_rfl
  have y1 : numOf (e16 (e18 a b ((0 + 2) + 2) (catf (0 + 2) (catf 0 zrow (rowOf 1 [.val (.int .u8 129), .val (.int .u8 0)])) (e2 p v)) kd nl n f) zrow 7 0) = IntKind.u8.wrap (shrI .u64 b 32) := by kernel_rfl
  have x2 : numOf (e16 (e18 a b ((0 + 2) + 2) (catf (0 + 2) (catf 0 zrow (rowOf 1 [.val (.int .u8 129), .val (.int .u8 0)])) (e2 p v)) kd nl n f) zrow 2 0) = IntKind.u8.wrap (shrI .u64 a 24) := by kernel_rfl
  have y2 : numOf (e16 (e18 a b ((0 + 2) + 2) (catf (0 + 2) (catf 0 zrow (rowOf 1 [.val (.int .u8 129), .val (.int .u8 0)])) (e2 p v)) kd nl n f) zrow 8 0) = IntKind.u8.wrap (shrI .u64 b 24) := by kernel_rfl
  have x3 : numOf (e16 (e18 a b ((0 + 2) + 2) (catf (0 + 2) (catf 0 zrow (rowOf 1 [.val (.int .u8 129), .val (.int .u8 0)])) (e2 p v)) kd nl n f) zrow 3 0) = IntKind.u8.wrap (shrI .u64 a 16) := by kernel_rfl
  have y3 : numOf (e16 (e18 a b ((0 + 2) + 2) (catf (0 + 2) (catf 0 zrow (rowOf 1 [.val (.int .u8 129), .val (.int .u8 0)])) (e2 p v)) kd nl n f) zrow 9 0) = IntKind.u8.wrap (shrI .u64 b 16) := by kernel_rfl
  have x4 : numOf (e16 (e18 a b ((0 + 2) + 2) (catf (0 + 2) (catf 0 zrow (rowOf 1 [.val (.int .u8 129), .val (.int .u8 0)])) (e2 p v)) kd nl n f) zrow 4 0) = IntKind.u8.wrap (shrI .u64 a 8) := by kernel_rfl
  have y4 : numOf (e16 (e18 a b ((0 + 2) + 2) (catf (0 + 2) (catf 0 zrow (rowOf 1 [.val (.int .u8 129), .val (.int .u8 0)])) (e2 p v)) kd nl n f) zrow 10 0) = IntKind.u8.wrap (shrI .u64 b 8) := by kernel_rfl
  have x5 : numOf (e16 (e18 a b ((0 + 2) + 2) (catf (0 + 2) (catf 0 zrow (rowOf 1 [.val (.int .u8 129), .val (.int .u8 0)])) (e2 p v)) kd nl n f) zrow 5 0) = IntKind.u8.wrap (shrI .u64 a 0) := by kernel_rfl
  have y5 : numOf (e16 (e18 a b ((0 + 2) + 2) (catf (0 + 2) (catf 0 zrow (rowOf 1 [.val (.int .u8 129), .val (.int .u8 0)])) (e2 p v)) kd nl n f) zrow 11 0) = IntKind.u8.wrap (shrI .u64 b 0) := by kernel_rfl
  obtain ⟨_, hp0, hp1, hv0, hv1⟩ := h.tag rfl
  have m0 : numOf (e16 (e18 a b ((0 + 2) + 2) (catf (0 + 2) (catf 0 zrow (rowOf 1 [.val (.int .u8 129), .val (.int .u8 0)])) (e2 p v)) kd nl n f) zrow 12 0) = 129 := by kernel_rfl
  have m1 : numOf (e16 (e18 a b ((0 + 2) + 2) (catf (0 + 2) (catf 0 zrow (rowOf 1 [.val (.int .u8 129), .val (.int .u8 0)])) (e2 p v)) kd nl n f) zrow 13 0) = 0 := by kernel_rfl
  have m2 : numOf (e16 (e18 a b ((0 + 2) + 2) (catf (0 + 2) (catf 0 zrow (rowOf 1 [.val (.int .u8 129), .val (.int .u8 0)])) (e2 p v)) kd nl n f) zrow 14 0) = IntKind.u8.wrap (shrI .i64 (bits .or .i64 (shlI .i64 p 13) v) 8) := by kernel_rfl
  have m3 : numOf (e16 (e18 a b ((0 + 2) + 2) (catf (0 + 2) (catf 0 zrow (rowOf 1 [.val (.int .u8 129), .val (.int .u8 0)])) (e2 p v)) kd nl n f) zrow 15 0) = IntKind.u8.wrap (bits .or .i64 (shlI .i64 p 13) v) := by kernel_rfl
  have m4 : numOf (e16 (e18 a b ((0 + 2) + 2) (catf (0 + 2) (catf 0 zrow (rowOf 1 [.val (.int .u8 129), .val (.int .u8 0)])) (e2 p v)) kd nl n f) zrow 16 0) = IntKind.u8.wrap (shrI .i64 kd 8) := by kernel_rfl
  have m5 : numOf (e16 (e18 a b ((0 + 2) + 2) (catf (0 + 2) (catf 0 zrow (rowOf 1 [.val (.int .u8 129), .val (.int .u8 0)])) (e2 p v)) kd nl n f) zrow 17 0) = IntKind.u8.wrap kd := by kernel_rfl
  rw [tagn p v hp0 hp1 hv0 (by omega)] at m2 m3
  rw [hi2 _ (by omega) (by omega)] at m2 m4
  rw [wrap_u8] at m3 m5
  have hl : e17 (e18 a b ((0 + 2) + 2) (catf (0 + 2) (catf 0 zrow (rowOf 1 [.val (.int .u8 129), .val (.int .u8 0)])) (e2 p v)) kd nl n f) = 0 + 6 + 6 + 4 + 2 + n := by kernel_rfl
  refine ⟨by rw [hl]; simp only [cond_true], x0.trans (b40 a), x1.trans (b32 a), x2.trans (b24 a), x3.trans (b16 a), x4.trans (b8 a), x5.trans (b0 a), y0.trans (b40 b), y1.trans (b32 b), y2.trans (b24 b), y3.trans (b16 b), y4.trans (b8 b), y5.trans (b0 b), fun _ => ⟨m0, m1, m2, m3, m4, m5, fun j c => catf_hi 18 _ _ j c⟩, fun h => by cases h⟩
theorem bytes_false (a b p v kd : Int) (nl : Bool) (n : Nat) (f : Nat → Nat → PV) (h : Fit a b false p v kd n) : Bytes a b false p v kd n f (e17 (e5 a b kd nl n f)) (e16 (e5 a b kd nl n f) zrow) := by
  have hk0 := h.k0
  have hk1 := h.k1
  have x0 : numOf (e16 (e5 a b kd nl n f) zrow 0 0) = IntKind.u8.wrap (shrI .u64 a 40) := by kernel_rfl
  have y0 : numOf (e16 (e5 a b kd nl n f) zrow 6 0) = IntKind.u8.wrap (shrI .u64 b 40) := by kernel_rfl
  have x1 : numOf (e16 (e5 a b kd nl n f) zrow 1 0) = IntKind.u8.wrap (shrI .u64 a 32) := by kernel_rfl
  have y1 : numOf (e16 (e5 a b kd nl n f) zrow 7 0) = IntKind.u8.wrap (shrI .u64 b 32) := by kernel_rfl
  have x2 : numOf (e16 (e5 a b kd nl n f) zrow 2 0) = IntKind.u8.wrap (shrI .u64 a 24) := by kernel_rfl
  have y2 : numOf (e16 (e5 a b kd nl n f) zrow 8 0) = IntKind.u8.wrap (shrI .u64 b 24) := by kernel_rfl
  have x3 : numOf (e16 (e5 a b kd nl n f) zrow 3 0) = IntKind.u8.wrap (shrI .u64 a 16) := by kernel_rfl
  have y3 : numOf (e16 (e5 a b kd nl n f) zrow 9 0) = IntKind.u8.wrap (shrI .u64 b 16) := by kernel_rfl
  have x4 : numOf (e16 (e5 a b kd nl n f) zrow 4 0) = IntKind.u8.wrap (shrI .u64 a 8) := by kernel_rfl
  have y4 : numOf (e16 (e5 a b kd nl n f) zrow 10 0) = IntKind.u8.wrap (shrI .u64 b 8) := by kernel_rfl
  have x5 : numOf (e16 (e5 a b kd nl n f) zrow 5 0) = IntKind.u8.wrap (shrI .u64 a 0) := by kernel_rfl
  have y5 : numOf (e16 (e5 a b kd nl n f) zrow 11 0) = IntKind.u8.wrap (shrI .u64 b 0) := by kernel_rfl
  have m4 : numOf (e16 (e5 a b kd nl n f) zrow 12 0) = IntKind.u8.wrap (shrI .i64 kd 8) := by kernel_rfl
  have m5 : numOf (e16 (e5 a b kd nl n f) zrow 13 0) = IntKind.u8.wrap kd := by kernel_rfl
  rw [hi2 _ (by omega) (by omega)] at m4
  rw [wrap_u8] at m5
  have hl : e17 (e5 a b kd nl n f) = 0 + 6 + 6 + 0 + 2 + n := by kernel_rfl
  refine ⟨by rw [hl]; simp only [cond_false], x0.trans (b40 a), x1.trans (b32 a), x2.trans (b24 a), x3.trans (b16 a), x4.trans (b8 a), x5.trans (b0 a), y0.trans (b40 b), y1.trans (b32 b), y2.trans (b24 b), y3.trans (b16 b), y4.trans (b8 b), y5.trans (b0 b), fun h => (by cases h), fun _ => ⟨m4, m5, fun j c => catf_hi 14 _ _ j c⟩⟩
theorem enc_cases (a b : Int) (t : Bool) (p v kd : Int) (nl : Bool) (n : Nat) (f : Nat → Nat → PV) (ha : 0 ≤ a) (hb : 0 ≤ b) :
    (∀ (α : Type) (k0 k1 : Option α) k2, frame_Encode a b t p v kd nl n f k0 k1 k2 = k0) ∨
    (Fit a b t p v kd n ∧ ∃ N g, Bytes a b t p v kd n f N g ∧ ∀ (α : Type) (k0 k1 : Option α) k2, frame_Encode a b t p v kd nl n f k0 k1 k2 = k2 N g) := by
  unfold frame_Encode frame_Encode_T
  rcases good_cases a b t p v kd nl n f ha hb with hg | ⟨hf, hg⟩
  · exact .inl fun _ _ _ _ => by simp only [hg]; rfl
  refine .inr ⟨hf, ?_⟩
  simp only [hg, Bool.not_true, cond_false]
  cases t with
  | true =>
    have hn := (hf.tag rfl).1
    refine ⟨_, _, bytes_true a b p v kd nl n f hf, fun α k0 k1 k2 => ?_⟩
    rw [cond_true, join2 (e3 p v) (by show 0 < 2; omega) (by show 2 + 2 ≤ 100000; omega)]
    exact join5 (e18 a b ((0 + 2) + 2) (catf (0 + 2) (catf 0 zrow (rowOf 1 [.val (.int .u8 129), .val (.int .u8 0)])) (e2 p v)) kd nl n f) (by show 0 < 6; omega) (by show 6 + 6 + 4 + 2 + n ≤ 100000; omega) _ _
  | false =>
    have hn := (hf.bare rfl).1
    refine ⟨_, _, bytes_false a b p v kd nl n f hf, fun α k0 k1 k2 => ?_⟩
    rw [cond_false]
    exact join5 (e5 a b kd nl n f) (by show 0 < 6; omega) (by show 6 + 6 + 0 + 2 + n ≤ 100000; omega) _ _
theorem good2 (a b p v kd : Int) (n : Nat) (h : Fit a b true p v kd n) (ha : 0 ≤ a) (hb : 0 ≤ b) (m : Nat) (f : Nat → Nat → PV) (α : Type) (k : Bool → Nat → (Nat → Nat → PV) → Option α) : frame_Good_v2 a b p v kd m f k = k (!decide ((m : Int) > 1500)) m f := by
  obtain ⟨_, hp0, hp1, hv0, hv1⟩ := h.tag rfl
  have hk0 := h.k0
  have hk1 := h.k1
  unfold frame_Good_v2 frame_Good_v2_T frame_room frame_room_T
  simp only [h.g, shr48 ha, shr48 hb, dec_t h.d, dec_t h.s, beq_eq_false_iff_ne.2 h.k2]
  rw [dec_f (show ¬ kd < 0 by omega), dec_f (show ¬ kd ≥ 65536 by omega), dec_t hp0, dec_t hp1, dec_t hv0, dec_t hv1]
  cases decide ((m : Int) > 1500) <;> rfl
theorem good3 (a b p v kd : Int) (n : Nat) (h : Fit a b false p v kd n) (ha : 0 ≤ a) (hb : 0 ≤ b) (m : Nat) (f : Nat → Nat → PV) (α : Type) (k0 k1 : Nat → (Nat → Nat → PV) → Option α) : frame_Good_v3 a b kd m f k0 k1 = bif decide ((m : Int) > 1504) then k0 m f else k1 m f := by
  have hk0 := h.k0
  have hk1 := h.k1
  unfold frame_Good_v3 frame_Good_v3_T frame_room frame_room_T
  simp only [h.g, shr48 ha, shr48 hb, dec_t h.d, dec_t h.s, beq_eq_false_iff_ne.2 h.k2]
  rw [dec_f (show ¬ kd < 0 by omega), dec_f (show ¬ kd ≥ 65536 by omega)]
  rfl
theorem num_d {a b : Int} {t : Bool} {p v kd : Int} {n : Nat} {f : Nat → Nat → PV} {N : Nat} {g : Nat → Nat → PV} (h : Bytes a b t p v kd n f N g) (h0 : 0 ≤ a) (h1 : a < 281474976710656) : e21 g = a := by
  unfold e21 e20 e19
  rw [h.x0, h.x1, h.x2, h.x3, h.x4, h.x5]
  exact six a h0 h1
theorem num_s {a b : Int} {t : Bool} {p v kd : Int} {n : Nat} {f : Nat → Nat → PV} {N : Nat} {g : Nat → Nat → PV} (h : Bytes a b t p v kd n f N g) (h0 : 0 ≤ b) (h1 : b < 281474976710656) : e24 g = b := by
  unfold e24 e23 e22
  rw [h.y0, h.y1, h.y2, h.y3, h.y4, h.y5]
  exact six b h0 h1
theorem num_k {a b : Int} {p v kd : Int} {n : Nat} {f : Nat → Nat → PV} {N : Nat} {g : Nat → Nat → PV} (h : Bytes a b false p v kd n f N g) (h0 : 0 ≤ kd) (h1 : kd < 65536) : e25 g = kd := by
  obtain ⟨m4, m5, _⟩ := h.w rfl
  unfold e25
  rw [m4, m5, two _ _ (by omega) (by omega) (by omega) (by omega)]
  omega
theorem num_m {a b : Int} {p v kd : Int} {n : Nat} {f : Nat → Nat → PV} {N : Nat} {g : Nat → Nat → PV} (h : Bytes a b true p v kd n f N g) : e25 g = 33024 := by
  obtain ⟨m0, m1, _⟩ := h.m rfl
  unfold e25
  rw [m0, m1, two _ _ (by omega) (by omega) (by omega) (by omega)]
  rfl
theorem num_t {a b : Int} {p v kd : Int} {n : Nat} {f : Nat → Nat → PV} {N : Nat} {g : Nat → Nat → PV} (h : Bytes a b true p v kd n f N g) (hp0 : 0 ≤ p) (hp1 : p < 8) (hv0 : 0 ≤ v) (hv1 : v < 8192) : e26 g = p * 8192 + v := by
  obtain ⟨_, _, m2, m3, _⟩ := h.m rfl
  unfold e26
  rw [m2, m3, two _ _ (by omega) (by omega) (by omega) (by omega)]
  omega
theorem num_kt {a b : Int} {p v kd : Int} {n : Nat} {f : Nat → Nat → PV} {N : Nat} {g : Nat → Nat → PV} (h : Bytes a b true p v kd n f N g) (h0 : 0 ≤ kd) (h1 : kd < 65536) : e27 g = kd := by
  obtain ⟨_, _, _, _, m4, m5, _⟩ := h.m rfl
  unfold e27
  rw [m4, m5, two _ _ (by omega) (by omega) (by omega) (by omega)]
  omega
theorem bytes_cat {a b : Int} {t : Bool} {p v kd : Int} {n : Nat} {f : Nat → Nat → PV} {N : Nat} {g : Nat → Nat → PV} (h : Bytes a b t p v kd n f N g) (m : Nat) (x : Nat → Nat → PV) : Bytes a b t p v kd (n + m) (catf n f x) (N + m) (catf N g x) := by
  have hl := h.len
  have lo : ∀ j, j < N → catf N g x j 0 = g j 0 := fun j hj => catf_lo hj 0
  cases t with
  | true =>
    rw [cond_true] at hl
    obtain ⟨m0, m1, m2, m3, m4, m5, m6⟩ := h.m rfl
    refine ⟨by rw [hl, cond_true]; omega, ?_, ?_, ?_, ?_, ?_, ?_, ?_, ?_, ?_, ?_, ?_, ?_, fun _ => ⟨?_, ?_, ?_, ?_, ?_, ?_, fun j c => ?_⟩, fun h => by cases h⟩
    all_goals first | (rw [lo _ (by omega)]; first | exact h.x0 | exact h.x1 | exact h.x2 | exact h.x3 | exact h.x4 | exact h.x5 | exact h.y0 | exact h.y1 | exact h.y2 | exact h.y3 | exact h.y4 | exact h.y5 | exact m0 | exact m1 | exact m2 | exact m3 | exact m4 | exact m5) | skip
    by_cases hj : j < n
    · rw [catf_lo (show 18 + j < N by omega), catf_lo hj, m6]
    · obtain ⟨i, rfl⟩ : ∃ i, j = n + i := ⟨j - n, by omega⟩
      rw [catf_hi, show 18 + (n + i) = N + i by omega, catf_hi]
  | false =>
    rw [cond_false] at hl
    obtain ⟨m4, m5, m6⟩ := h.w rfl
    refine ⟨by rw [hl, cond_false]; omega, ?_, ?_, ?_, ?_, ?_, ?_, ?_, ?_, ?_, ?_, ?_, ?_, (fun h => by cases h), fun _ => ⟨?_, ?_, fun j c => ?_⟩⟩
    all_goals first | (rw [lo _ (by omega)]; first | exact h.x0 | exact h.x1 | exact h.x2 | exact h.x3 | exact h.x4 | exact h.x5 | exact h.y0 | exact h.y1 | exact h.y2 | exact h.y3 | exact h.y4 | exact h.y5 | exact m4 | exact m5) | skip
    by_cases hj : j < n
    · rw [catf_lo (show 14 + j < N by omega), catf_lo hj, m6]
    · obtain ⟨i, rfl⟩ : ∃ i, j = n + i := ⟨j - n, by omega⟩
      rw [catf_hi, show 14 + (n + i) = N + i by omega, catf_hi]
theorem parse_tag {a b p v kd : Int} {n : Nat} {f : Nat → Nat → PV} {N : Nat} {g : Nat → Nat → PV} (h : Bytes a b true p v kd n f N g) {n0 : Nat} (hf : Fit a b true p v kd n0) (ha : 0 ≤ a) (hb : 0 ≤ b) (hn : n ≤ 100000) (α : Type) (k0 : Nat → (Nat → Nat → PV) → Option α) (k1 : Int → Int → Int → Int → Int → Nat → (Nat → Nat → PV) → Nat → (Nat → Nat → PV) → Option α) (k2 : Int → Int → Int → Nat → (Nat → Nat → PV) → Nat → (Nat → Nat → PV) → Option α) :
    frame_Parse_v1 N g k0 k1 k2 = bif decide ((n : Int) > 1500) then k0 N g else k1 a b p v kd N g n f := by
  have hl := h.len
  rw [cond_true] at hl
  obtain ⟨_, hp0, hp1, hv0, hv1⟩ := hf.tag rfl
  obtain ⟨_, _, _, _, _, _, m6⟩ := h.m rfl
  have ef : (fun j c => g (18 + j) c) = f := by funext j c; exact m6 j c
  unfold frame_Parse_v1 frame_Parse_v1_T
  rw [num_d h ha hf.d, num_s h hb hf.s, num_m h, num_t h hp0 hp1 hv0 (by omega), num_kt h hf.k0 hf.k1, shri13, and13 _ (by omega) (by omega)]
  rw [show (p * 8192 + v) / 8192 = p by omega, show (p * 8192 + v) % 8192 = v by omega]
  rw [show (0 + (((N - 12) - 4) - 2)) = n by omega, ef, catf_zero _ f]
  simp only [good2 a b p v kd n0 hf ha hb]
  rw [bnd (show n ≤ 200000 by omega)]
  simp (disch := omega) only [dec_f, dec_t, inb_t, cond_true, cond_false, beq_self_eq_true]
  cases decide ((n : Int) > 1500) <;> rfl
theorem parse_bare {a b p v kd : Int} {n : Nat} {f : Nat → Nat → PV} {N : Nat} {g : Nat → Nat → PV} (h : Bytes a b false p v kd n f N g) {n0 : Nat} (hf : Fit a b false p v kd n0) (ha : 0 ≤ a) (hb : 0 ≤ b) (hn : n ≤ 100000) (α : Type) (k0 : Nat → (Nat → Nat → PV) → Option α) (k1 : Int → Int → Int → Int → Int → Nat → (Nat → Nat → PV) → Nat → (Nat → Nat → PV) → Option α) (k2 : Int → Int → Int → Nat → (Nat → Nat → PV) → Nat → (Nat → Nat → PV) → Option α) :
    frame_Parse_v1 N g k0 k1 k2 = bif decide ((n : Int) > 1504) then k0 N g else k2 a b kd N g n f := by
  have hl := h.len
  rw [cond_false] at hl
  obtain ⟨_, _, m6⟩ := h.w rfl
  have ef : (fun j c => g (14 + j) c) = f := by funext j c; exact m6 j c
  unfold frame_Parse_v1 frame_Parse_v1_T
  rw [num_d h ha hf.d, num_s h hb hf.s, num_k h hf.k0 hf.k1, beq_eq_false_iff_ne.2 hf.k2]
  rw [show (0 + ((N - 12) - 2)) = n by omega, ef, catf_zero _ f]
  simp only [good3 a b p v kd n0 hf ha hb]
  rw [bnd (show n ≤ 200000 by omega)]
  simp (disch := omega) only [dec_f, dec_t, inb_t, cond_true, cond_false]
theorem parse_cut {a b p v kd : Int} {n : Nat} {f : Nat → Nat → PV} {N : Nat} {g : Nat → Nat → PV} (h : Bytes a b true p v kd n f N g) (α : Type) (k0 : Nat → (Nat → Nat → PV) → Option α) (k1 : Int → Int → Int → Nat → (Nat → Nat → PV) → (Nat → Nat → PV) → Option α) : frame_Parse N g k0 k1 = k0 N g := by
  have hl := h.len
  rw [cond_true] at hl
  unfold frame_Parse frame_Parse_T
  rw [num_m h]
  simp (disch := omega) only [inb_t, cond_true, beq_self_eq_true]
theorem same (n m : Nat) (f x : Nat → Nat → PV) : e28 (n + m) (catf n f x) n m f x = true := by
  unfold e28
  rw [catf_zero, Nat.zero_add, beq_self_eq_true]
theorem main {α : Type} (a_1 : Int) (a_2 : Int) (a_3 : Bool) (a_4 : Int) (a_5 : Int) (a_6 : Int) (a_7 : Bool) (a_8 : Nat) (a_9 : Nat → Nat → PV) (a_10 : Bool) (a_11 : Nat) (a_12 : Nat → Nat → PV) (h_1 : PvOk (.val (.int .u64 a_1))) (h_2 : PvOk (.val (.int .u64 a_2))) (h_4 : PvOk (.val (.int .i64 a_4))) (h_5 : PvOk (.val (.int .i64 a_5))) (h_6 : PvOk (.val (.int .i64 a_6))) (h_7 : PvOk (.sl a_7 (.int .u8 .nil) 1 a_8 a_9)) (k_7 : RowK (.int .u8 .nil) a_8 a_9) (h_10 : PvOk (.sl a_10 (.int .u8 .nil) 1 a_11 a_12)) (k_10 : RowK (.int .u8 .nil) a_11 a_12) (k0 k1 : Option α) : law10_FrameSizes a_1 a_2 a_3 a_4 a_5 a_6 a_7 a_8 a_9 a_10 a_11 a_12 k0 k1 = k0 := by
  have ha := (pv_u64 h_1).1
  have hb := (pv_u64 h_2).1
  unfold law10_FrameSizes law10_FrameSizes_T
  by_cases hn : (a_8 : Int) > 2000
  · rw [dec_t hn, cond_true]
  by_cases hm : (a_11 : Int) > 100
  · rw [dec_f hn, dec_t hm, cond_true, cond_false]
  rw [dec_f hn, dec_f hm, cond_false, cond_false]
  rcases enc_cases a_1 a_2 a_3 a_4 a_5 a_6 a_7 a_8 a_9 ha hb with hE | ⟨hf, N, g, hB, hE⟩
  · rw [hE]
  rw [hE]
  have hl := hB.len
  have hC := bytes_cat hB a_11 a_12
  have hw : IntKind.i64.wrap ((a_8 : Int) + (a_11 : Int)) = ((a_8 + a_11 : Nat) : Int) := by rw [i64_id (by omega) (by omega)]; omega
  cases a_3 with
  | true =>
    rw [cond_true] at hl ⊢
    have hq : ((N : Int) != IntKind.i64.wrap (18 + (a_8 : Int))) = false := by rw [i64_id (by omega) (by omega), hl]; simp
    rw [hq, cond_false, inb_t (by omega) (by omega), cond_true, parse_cut hB, Nat.zero_add, Nat.zero_add, catf_zero, bnd (show N ≤ 200000 by omega), bnd (show N + a_11 ≤ 200000 by omega), bnd (show a_8 ≤ 200000 by omega), bnd (show a_8 + a_11 ≤ 200000 by omega), hw]
    rw [parse_tag hC hf ha hb (by omega)]
    cases decide (((a_8 + a_11 : Nat) : Int) > 1500) with
    | true => rfl
    | false => simp only [cond_true, cond_false, same, beq_self_eq_true]
  | false =>
    rw [cond_false] at hl ⊢
    have hq : ((N : Int) != IntKind.i64.wrap (14 + (a_8 : Int))) = false := by rw [i64_id (by omega) (by omega), hl]; simp
    rw [hq, cond_false, inb_t (by omega) (by omega), cond_true, Nat.zero_add, Nat.zero_add, catf_zero, bnd (show N ≤ 200000 by omega), bnd (show N + a_11 ≤ 200000 by omega), bnd (show a_8 ≤ 200000 by omega), bnd (show a_8 + a_11 ≤ 200000 by omega), hw]
    rw [parse_bare hC hf ha hb (by omega)]
    cases decide (((a_8 + a_11 : Nat) : Int) > 1504) with
    | true => rfl
    | false => simp only [cond_true, cond_false, same, beq_self_eq_true]
end Go.Proofs.Ytampnnhdgnhjaaa.FrameSizes

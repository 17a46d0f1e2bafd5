/- FrameBack: what the code comes to answers true: plain numbers and rows, no program in sight. -/
import Derived.Test.YtampnnhdgnhjaaaFrameBackU
import Derived.Test.YtampnnhdgnhjaaaVe26
set_option linter.unusedVariables false
set_option linter.unusedSimpArgs false
namespace Go.Proofs.Ytampnnhdgnhjaaa.FrameBack
open Go.Ve
theorem bnd {n : Nat} (h : n ≤ 200000) : Nat.ble (n * 1) bound = true := ble_true (by unfold bound; omega)
theorem ubyte_num (p : PV) : ubyte p = UInt8.ofNat (numOf p).toNat := by
  unfold ubyte numOf
  split <;> first | rfl | (split <;> first | rfl | simp_all)
theorem strOf_num {n : Nat} {f g : Nat → Nat → PV} (h : ∀ j, j < n → numOf (f j 0) = numOf (g j 0)) : strOf n f = strOf n g := by
  unfold strOf
  congr 2
  refine List.map_congr_left fun j hj => ?_
  rw [ubyte_num, ubyte_num, h j (List.mem_range.1 hj)]
theorem group_ex (a : Int) : ∃ x : Bool, ∀ (α : Type) (k : Bool → Option α), mac_Group a k = k x := by
  unfold mac_Group mac_Group_T
  generalize (shrI .u64 a 48 == 0) = c1
  cases c1 <;> exact ⟨_, fun _ _ => rfl⟩
/-- what Good frames are -/
structure Fit (a b : Int) (t : Bool) (p v kd : Int) (n : Nat) : Prop where
  d : a < 281474976710656
  s : b < 281474976710656
  g : ∀ (α : Type) (k : Bool → Option α), mac_Group b k = k false
  k0 : 0 ≤ kd
  k1 : kd < 65536
  k2 : kd ≠ 33024
  bare : t = false → n ≤ 1504 ∧ p = 0 ∧ v = 0
  tag : t = true → n ≤ 1500 ∧ 0 ≤ p ∧ p < 8 ∧ 0 ≤ v ∧ v < 4096
theorem good_cases (a b : Int) (t : Bool) (p v kd : Int) (nl : Bool) (n : Nat) (f : Nat → Nat → PV) (ha : 0 ≤ a) (hb : 0 ≤ b) :
    (∀ (α : Type) (k : Bool → Option α), frame_Good a b t p v kd nl n f k = k false) ∨ (Fit a b t p v kd n ∧ ∀ (α : Type) (k : Bool → Option α), frame_Good a b t p v kd nl n f k = k true) := by
  obtain ⟨g, hg⟩ := group_ex b
  unfold frame_Good frame_Good_T frame_room frame_room_T
  simp only [hg, shr48 ha, shr48 hb]
  by_cases h1 : a < 281474976710656
  rotate_left; · rw [dec_f h1]; exact .inl fun _ _ => rfl
  by_cases h2 : b < 281474976710656
  rotate_left; · rw [dec_f h2]; exact .inl fun _ _ => by rw [dec_t h1]; rfl
  rw [dec_t h1, dec_t h2]
  cases g with
  | true => exact .inl fun _ _ => rfl
  | false =>
  by_cases h3 : kd < 0
  · rw [dec_t h3]; exact .inl fun _ _ => rfl
  by_cases h4 : kd ≥ 65536
  · rw [dec_t h4, dec_f h3]; exact .inl fun _ _ => rfl
  rw [dec_f h3, dec_f h4]
  by_cases h5 : kd = 33024
  · rw [h5]; exact .inl fun _ _ => rfl
  rw [beq_eq_false_iff_ne.2 h5]
  cases t with
  | false =>
    simp only [cond_true, cond_false, Bool.not_true, Bool.not_false]
    by_cases h6 : (n : Int) > 1504
    · rw [dec_t h6]; exact .inl fun _ _ => rfl
    rw [dec_f h6]
    by_cases h7 : p = 0
    rotate_left; · rw [beq_eq_false_iff_ne.2 h7]; exact .inl fun _ _ => rfl
    by_cases h8 : v = 0
    rotate_left; · rw [h7, beq_eq_false_iff_ne.2 h8]; exact .inl fun _ _ => rfl
    rw [h7, h8]
    exact .inr ⟨⟨h1, h2, fun α k => hg α k, by omega, by omega, h5, fun _ => ⟨by omega, rfl, rfl⟩, fun h => by cases h⟩, fun _ _ => rfl⟩
  | true =>
    simp only [cond_true, cond_false, Bool.not_true, Bool.not_false]
    by_cases h6 : (n : Int) > 1500
    · rw [dec_t h6]; exact .inl fun _ _ => rfl
    rw [dec_f h6]
    by_cases h7 : p ≥ 0
    rotate_left; · rw [dec_f h7]; exact .inl fun _ _ => rfl
    by_cases h8 : p < 8
    rotate_left; · rw [dec_t h7, dec_f h8]; exact .inl fun _ _ => rfl
    by_cases h9 : v ≥ 0
    rotate_left; · rw [dec_t h7, dec_t h8, dec_f h9]; exact .inl fun _ _ => rfl
    by_cases h10 : v < 4096
    rotate_left; · rw [dec_t h7, dec_t h8, dec_t h9, dec_f h10]; exact .inl fun _ _ => rfl
    rw [dec_t h7, dec_t h8, dec_t h9, dec_t h10]
    exact .inr ⟨⟨h1, h2, fun α k => hg α k, by omega, by omega, h5, (fun h => by cases h), fun _ => ⟨by omega, by omega, by omega, by omega, by omega⟩⟩, fun _ _ => rfl⟩
theorem good_fit {a b : Int} {t : Bool} {p v kd : Int} {n : Nat} (h : Fit a b t p v kd n) (ha : 0 ≤ a) (hb : 0 ≤ b) (nl : Bool) (f : Nat → Nat → PV) (α : Type) (k : Bool → Option α) : frame_Good a b t p v kd nl n f k = k true := by
  have hk0 := h.k0
  have hk1 := h.k1
  unfold frame_Good frame_Good_T frame_room frame_room_T
  simp only [h.g, shr48 ha, shr48 hb, dec_t h.d, dec_t h.s, beq_eq_false_iff_ne.2 h.k2]
  rw [dec_f (show ¬ kd < 0 by omega), dec_f (show ¬ kd ≥ 65536 by omega)]
  cases t with
  | true =>
    obtain ⟨hn, hp0, hp1, hv0, hv1⟩ := h.tag rfl
    simp only [cond_true, cond_false, Bool.not_true, Bool.not_false]
    rw [dec_f (show ¬ (n : Int) > 1500 by omega), dec_t hp0, dec_t hp1, dec_t hv0, dec_t hv1]
    rfl
  | false =>
    obtain ⟨hn, rfl, rfl⟩ := h.bare rfl
    simp only [cond_true, cond_false, Bool.not_true, Bool.not_false]
    rw [dec_f (show ¬ (n : Int) > 1504 by omega)]
    rfl
/-- a frame's bytes: N of them, the row g -/
structure Bytes (a b : Int) (t : Bool) (p v kd : Int) (n : Nat) (f : Nat → Nat → PV) (N : Nat) (g : Nat → Nat → PV) : Prop where
  len : N = (bif t then 18 else 14) + n
  x0 : numOf (g 0 0) = a / 1099511627776 % 256
  x1 : numOf (g 1 0) = a / 4294967296 % 256
  x2 : numOf (g 2 0) = a / 16777216 % 256
  x3 : numOf (g 3 0) = a / 65536 % 256
  x4 : numOf (g 4 0) = a / 256 % 256
  x5 : numOf (g 5 0) = a % 256
  y0 : numOf (g 6 0) = b / 1099511627776 % 256
  y1 : numOf (g 7 0) = b / 4294967296 % 256
  y2 : numOf (g 8 0) = b / 16777216 % 256
  y3 : numOf (g 9 0) = b / 65536 % 256
  y4 : numOf (g 10 0) = b / 256 % 256
  y5 : numOf (g 11 0) = b % 256
  m : t = true → numOf (g 12 0) = 129 ∧ numOf (g 13 0) = 0 ∧ numOf (g 14 0) = (p * 8192 + v) / 256 ∧ numOf (g 15 0) = (p * 8192 + v) % 256 ∧ numOf (g 16 0) = kd / 256 ∧ numOf (g 17 0) = kd % 256 ∧ ∀ j, j < n → numOf (g (18 + j) 0) = numOf (f j 0)
  w : t = false → numOf (g 12 0) = kd / 256 ∧ numOf (g 13 0) = kd % 256 ∧ ∀ j, j < n → numOf (g (14 + j) 0) = numOf (f j 0)
theorem putf_hi (n m : Nat) (f g : Nat → Nat → PV) (j c : Nat) (h : j < m) : putf n m f g (n + j) c = g j c := by
  unfold putf
  rw [ble_true (show n ≤ n + j by omega), show Nat.blt (n + j) (n + m) = true from Nat.ble_eq_true_of_le (by omega), show n + j - n = j by omega]
  rfl
/-- two rows of the same frame -/
theorem Bytes.same {a b : Int} {t : Bool} {p v kd : Int} {n : Nat} {f f' : Nat → Nat → PV} {N N' : Nat} {g g' : Nat → Nat → PV} (h : Bytes a b t p v kd n f N g) (h' : Bytes a b t p v kd n f' N' g') (hf : ∀ j, j < n → numOf (f j 0) = numOf (f' j 0)) : N = N' ∧ strOf N g = strOf N' g' := by
  have e : N = N' := h.len.trans h'.len.symm
  subst e
  refine ⟨rfl, strOf_num fun j hj => ?_⟩
  have hl := h.len
  match j, hj with
  | 0, _ => rw [h.x0, h'.x0]
  | 1, _ => rw [h.x1, h'.x1]
  | 2, _ => rw [h.x2, h'.x2]
  | 3, _ => rw [h.x3, h'.x3]
  | 4, _ => rw [h.x4, h'.x4]
  | 5, _ => rw [h.x5, h'.x5]
  | 6, _ => rw [h.y0, h'.y0]
  | 7, _ => rw [h.y1, h'.y1]
  | 8, _ => rw [h.y2, h'.y2]
  | 9, _ => rw [h.y3, h'.y3]
  | 10, _ => rw [h.y4, h'.y4]
  | 11, _ => rw [h.y5, h'.y5]
  | j + 12, hj =>
    cases t with
    | true =>
      rw [cond_true] at hl
      obtain ⟨m0, m1, m2, m3, m4, m5, m6⟩ := h.m rfl
      obtain ⟨w0, w1, w2, w3, w4, w5, w6⟩ := h'.m rfl
      match j, hj with
      | 0, _ => exact m0.trans w0.symm
      | 1, _ => exact m1.trans w1.symm
      | 2, _ => exact m2.trans w2.symm
      | 3, _ => exact m3.trans w3.symm
      | 4, _ => exact m4.trans w4.symm
      | 5, _ => exact m5.trans w5.symm
      | j + 6, hj => rw [show j + 6 + 12 = 18 + j by omega, m6 j (by omega), w6 j (by omega), hf j (by omega)]
    | false =>
      rw [cond_false] at hl
      obtain ⟨m4, m5, m6⟩ := h.w rfl
      obtain ⟨w4, w5, w6⟩ := h'.w rfl
      match j, hj with
      | 0, _ => exact m4.trans w4.symm
      | 1, _ => exact m5.trans w5.symm
      | j + 2, hj => rw [show j + 2 + 12 = 14 + j by omega, m6 j (by omega), w6 j (by omega), hf j (by omega)]
theorem bytes_true (a b p v kd : Int) (n : Nat) (f : Nat → Nat → PV) (h : Fit a b true p v kd n) : Bytes a b true p v kd n f (18 + n) (e8 n a b p v kd f) := by
  have hk0 := h.k0
  have hk1 := h.k1
  have x0 : numOf (e8 n a b p v kd f 0 0) = IntKind.u8.wrap (shrI .u64 a 40) := by kernel_rfl
  have x1 : numOf (e8 n a b p v kd f 1 0) = IntKind.u8.wrap (shrI .u64 a 32) := by kernel_rfl
  have x2 : numOf (e8 n a b p v kd f 2 0) = IntKind.u8.wrap (shrI .u64 a 24) := by kernel_rfl
  have x3 : numOf (e8 n a b p v kd f 3 0) = IntKind.u8.wrap (shrI .u64 a 16) := by kernel_rfl
  have x4 : numOf (e8 n a b p v kd f 4 0) = IntKind.u8.wrap (shrI .u64 a 8) := by kernel_rfl
  have x5 : numOf (e8 n a b p v kd f 5 0) = IntKind.u8.wrap (shrI .u64 a 0) := by kernel_rfl
  have y0 : numOf (e8 n a b p v kd f 6 0) = IntKind.u8.wrap (shrI .u64 b 40) := by kernel_rfl
  have y1 : numOf (e8 n a b p v kd f 7 0) = IntKind.u8.wrap (shrI .u64 b 32) := by kernel_rfl
  have y2 : numOf (e8 n a b p v kd f 8 0) = IntKind.u8.wrap (shrI .u64 b 24) := by kernel_rfl
  have y3 : numOf (e8 n a b p v kd f 9 0) = IntKind.u8.wrap (shrI .u64 b 16) := by kernel_rfl
  have y4 : numOf (e8 n a b p v kd f 10 0) = IntKind.u8.wrap (shrI .u64 b 8) := by kernel_rfl
  have y5 : numOf (e8 n a b p v kd f 11 0) = IntKind.u8.wrap (shrI .u64 b 0) := by kernel_rfl
  obtain ⟨_, hp0, hp1, hv0, hv1⟩ := h.tag rfl
  have m0 : numOf (e8 n a b p v kd f 12 0) = 129 := by kernel_rfl
  have m1 : numOf (e8 n a b p v kd f 13 0) = 0 := by kernel_rfl
  have m2 : numOf (e8 n a b p v kd f 14 0) = IntKind.u8.wrap (shrI .i64 (bits .or .i64 (shlI .i64 p 13) v) 8) := by kernel_rfl
  have m3 : numOf (e8 n a b p v kd f 15 0) = IntKind.u8.wrap (bits .or .i64 (shlI .i64 p 13) v) := by kernel_rfl
  have m4 : numOf (e8 n a b p v kd f 16 0) = IntKind.u8.wrap (shrI .i64 kd 8) := by kernel_rfl
  have m5 : numOf (e8 n a b p v kd f 17 0) = IntKind.u8.wrap kd := by kernel_rfl
  rw [tagn p v hp0 hp1 hv0 (by omega)] at m2 m3
  rw [hi2 _ (by omega) (by omega)] at m2 m4
  rw [wrap_u8] at m3 m5
  exact ⟨rfl, x0.trans (b40 a), x1.trans (b32 a), x2.trans (b24 a), x3.trans (b16 a), x4.trans (b8 a), x5.trans (b0 a), y0.trans (b40 b), y1.trans (b32 b), y2.trans (b24 b), y3.trans (b16 b), y4.trans (b8 b), y5.trans (b0 b), fun _ => ⟨m0, m1, m2, m3, m4, m5, fun j hj => congrArg numOf (putf_hi 18 n _ f j 0 hj)⟩, fun h => by cases h⟩
def bare (n : Nat) (a b kd : Int) (f : Nat → Nat → PV) : Nat → Nat → PV := putf 14 n (putf 12 2 (putf 12 0 (e7 a b) (fun _ _ => .val undef)) (e1 kd)) f
theorem bytes_false (a b p v kd : Int) (n : Nat) (f : Nat → Nat → PV) (h : Fit a b false p v kd n) : Bytes a b false p v kd n f (14 + n) (bare n a b kd f) := by
  have hk0 := h.k0
  have hk1 := h.k1
  have x0 : numOf (bare n a b kd f 0 0) = IntKind.u8.wrap (shrI .u64 a 40) := by kernel_rfl
  have x1 : numOf (bare n a b kd f 1 0) = IntKind.u8.wrap (shrI .u64 a 32) := by kernel_rfl
  have x2 : numOf (bare n a b kd f 2 0) = IntKind.u8.wrap (shrI .u64 a 24) := by kernel_rfl
  have x3 : numOf (bare n a b kd f 3 0) = IntKind.u8.wrap (shrI .u64 a 16) := by kernel_rfl
  have x4 : numOf (bare n a b kd f 4 0) = IntKind.u8.wrap (shrI .u64 a 8) := by kernel_rfl
  have x5 : numOf (bare n a b kd f 5 0) = IntKind.u8.wrap (shrI .u64 a 0) := by kernel_rfl
  have y0 : numOf (bare n a b kd f 6 0) = IntKind.u8.wrap (shrI .u64 b 40) := by kernel_rfl
  have y1 : numOf (bare n a b kd f 7 0) = IntKind.u8.wrap (shrI .u64 b 32) := by kernel_rfl
  have y2 : numOf (bare n a b kd f 8 0) = IntKind.u8.wrap (shrI .u64 b 24) := by kernel_rfl
  have y3 : numOf (bare n a b kd f 9 0) = IntKind.u8.wrap (shrI .u64 b 16) := by kernel_rfl
  have y4 : numOf (bare n a b kd f 10 0) = IntKind.u8.wrap (shrI .u64 b 8) := by kernel_rfl
  have y5 : numOf (bare n a b kd f 11 0) = IntKind.u8.wrap (shrI .u64 b 0) := by kernel_rfl
  have m4 : numOf (bare n a b kd f 12 0) = IntKind.u8.wrap (shrI .i64 kd 8) := by kernel_rfl
  have m5 : numOf (bare n a b kd f 13 0) = IntKind.u8.wrap kd := by kernel_rfl
  rw [hi2 _ (by omega) (by omega)] at m4
  rw [wrap_u8] at m5
  exact ⟨rfl, x0.trans (b40 a), x1.trans (b32 a), x2.trans (b24 a), x3.trans (b16 a), x4.trans (b8 a), x5.trans (b0 a), y0.trans (b40 b), y1.trans (b32 b), y2.trans (b24 b), y3.trans (b16 b), y4.trans (b8 b), y5.trans (b0 b), (fun h => by cases h), fun _ => ⟨m4, m5, fun j hj => congrArg numOf (putf_hi 14 n _ f j 0 hj)⟩⟩
theorem enc_fit {a b : Int} {t : Bool} {p v kd : Int} {n : Nat} (hf : Fit a b t p v kd n) (ha : 0 ≤ a) (hb : 0 ≤ b) (nl : Bool) (f : Nat → Nat → PV) :
    ∃ N g, Bytes a b t p v kd n f N g ∧ ∀ (α : Type) (k0 : (Nat → Nat → PV) → Option α) k1, frame_Encode a b t p v kd nl n f k0 k1 = k1 false N g := by
  unfold frame_Encode frame_Encode_T
  simp only [good_fit hf ha hb, Bool.not_true, cond_false]
  cases t with
  | true =>
    have hn := (hf.tag rfl).1
    refine ⟨_, _, bytes_true a b p v kd n f hf, fun α k0 k1 => ?_⟩
    have w1 : IntKind.i64.wrap (18 + (n : Int)) = ((18 + n : Nat) : Int) := by rw [i64_id (by omega) (by omega)]; omega
    have w2 : IntKind.i64.wrap (((18 + n : Nat) : Int) - 0) = ((18 + n : Nat) : Int) := by rw [i64_id (by omega) (by omega)]; omega
    rw [w1, w2, Int.toNat_natCast, cond_true]
    rw [dec_f (show ¬ ((18 + n : Nat) : Int) < 0 by omega), dec_t (show ((18 + n : Nat) : Int) > 0 by omega), dec_t (show (0 : Int) ≤ ((18 + n : Nat) : Int) by omega), dec_t (show ((18 + n : Nat) : Int) ≤ 4611686018427387904 by omega), bnd (show 18 + n ≤ 200000 by omega), inb_t (show (0 : Int) ≤ 0 by omega) (show (0 : Int) < ((18 + n + 1 : Nat) : Int) by omega)]
    rw [ble_true (show 6 ≤ 18 + n by omega), ble_true (show 12 ≤ 18 + n by omega), ble_true (show 16 ≤ 18 + n by omega), ble_true (show 18 ≤ 18 + n by omega), ble_true (show 18 + n ≤ 18 + n by omega)]
    rw [show Nat.beq (18 + n) 0 = false by rw [show 18 + n = (17 + n) + 1 by omega]; rfl]
    rfl
  | false =>
    have hn := (hf.bare rfl).1
    refine ⟨_, _, bytes_false a b p v kd n f hf, fun α k0 k1 => ?_⟩
    have w1 : IntKind.i64.wrap (14 + (n : Int)) = ((14 + n : Nat) : Int) := by rw [i64_id (by omega) (by omega)]; omega
    have w2 : IntKind.i64.wrap (((14 + n : Nat) : Int) - 0) = ((14 + n : Nat) : Int) := by rw [i64_id (by omega) (by omega)]; omega
    rw [w1, w2, Int.toNat_natCast, cond_false]
    rw [dec_f (show ¬ ((14 + n : Nat) : Int) < 0 by omega), dec_t (show ((14 + n : Nat) : Int) > 0 by omega), dec_t (show (0 : Int) ≤ ((14 + n : Nat) : Int) by omega), dec_t (show ((14 + n : Nat) : Int) ≤ 4611686018427387904 by omega), bnd (show 14 + n ≤ 200000 by omega), inb_t (show (0 : Int) ≤ 0 by omega) (show (0 : Int) < ((14 + n + 1 : Nat) : Int) by omega)]
    rw [ble_true (show 6 ≤ 14 + n by omega), ble_true (show 12 ≤ 14 + n by omega), ble_true (show 14 ≤ 14 + n by omega), ble_true (show 14 + n ≤ 14 + n by omega)]
    rw [show Nat.beq (14 + n) 0 = false by rw [show 14 + n = (13 + n) + 1 by omega]; rfl]
    rfl
theorem enc_cases (a b : Int) (t : Bool) (p v kd : Int) (nl : Bool) (n : Nat) (f : Nat → Nat → PV) (ha : 0 ≤ a) (hb : 0 ≤ b) :
    (∀ (α : Type) (k0 : (Nat → Nat → PV) → Option α) k1, frame_Encode a b t p v kd nl n f k0 k1 = k0 fun _ _ => .val undef) ∨
    (Fit a b t p v kd n ∧ ∃ N g, Bytes a b t p v kd n f N g ∧ ∀ (α : Type) (k0 : (Nat → Nat → PV) → Option α) k1, frame_Encode a b t p v kd nl n f k0 k1 = k1 false N g) := by
  rcases good_cases a b t p v kd nl n f ha hb with hg | ⟨hf, hg⟩
  · refine .inl fun _ _ _ => ?_
    unfold frame_Encode frame_Encode_T
    simp only [hg]
    rfl
  · exact .inr ⟨hf, enc_fit hf ha hb nl f⟩
theorem clone_ex (nl : Bool) (n : Nat) (f : Nat → Nat → PV) (h0 : nl = true → n = 0) (h1 : n ≤ 100000) : ∃ r : Nat → Nat → PV, (∀ (α : Type) (k : Bool → Nat → (Nat → Nat → PV) → Option α), slices_Clone_byte_byte nl n f k = k nl n r) ∧ ∀ j, j < n → r j 0 = f j 0 := by
  unfold slices_Clone_byte_byte slices_Clone_byte_byte_T
  cases nl with
  | true =>
    obtain rfl := h0 rfl
    exact ⟨_, fun _ _ => rfl, fun j hj => absurd hj (Nat.not_lt_zero j)⟩
  | false => exact ⟨f, fun α k => by rw [Nat.zero_add, bnd (show n ≤ 200000 by omega), catf_zero]; rfl, fun _ _ => rfl⟩
/-! ### addresses -/
def S (r : Nat → Nat → PV) : Int := ((((numOf (r 0 0) * 256 + numOf (r 1 0)) * 256 + numOf (r 2 0)) * 256 + numOf (r 3 0)) * 256 + numOf (r 4 0)) * 256 + numOf (r 5 0)
theorem of0 {α : Type} (k0 : Int → Option α) (m : Nat) (x : Int) (nl : Bool) (r : Nat → Nat → PV) : mac_Of_L0_l0 k0 (m + 1) x nl 6 r 6 0 = mac_Of_L0_l0 k0 m (bits .or .u64 (shlI .u64 x 8) (IntKind.u64.wrap (numOf (r 0 0)))) nl 6 r 6 1 := by kernel_rfl
theorem of1 {α : Type} (k0 : Int → Option α) (m : Nat) (x : Int) (nl : Bool) (r : Nat → Nat → PV) : mac_Of_L0_l0 k0 (m + 1) x nl 6 r 6 1 = mac_Of_L0_l0 k0 m (bits .or .u64 (shlI .u64 x 8) (IntKind.u64.wrap (numOf (r 1 0)))) nl 6 r 6 2 := by kernel_rfl
theorem of2 {α : Type} (k0 : Int → Option α) (m : Nat) (x : Int) (nl : Bool) (r : Nat → Nat → PV) : mac_Of_L0_l0 k0 (m + 1) x nl 6 r 6 2 = mac_Of_L0_l0 k0 m (bits .or .u64 (shlI .u64 x 8) (IntKind.u64.wrap (numOf (r 2 0)))) nl 6 r 6 3 := by kernel_rfl
theorem of3 {α : Type} (k0 : Int → Option α) (m : Nat) (x : Int) (nl : Bool) (r : Nat → Nat → PV) : mac_Of_L0_l0 k0 (m + 1) x nl 6 r 6 3 = mac_Of_L0_l0 k0 m (bits .or .u64 (shlI .u64 x 8) (IntKind.u64.wrap (numOf (r 3 0)))) nl 6 r 6 4 := by kernel_rfl
theorem of4 {α : Type} (k0 : Int → Option α) (m : Nat) (x : Int) (nl : Bool) (r : Nat → Nat → PV) : mac_Of_L0_l0 k0 (m + 1) x nl 6 r 6 4 = mac_Of_L0_l0 k0 m (bits .or .u64 (shlI .u64 x 8) (IntKind.u64.wrap (numOf (r 4 0)))) nl 6 r 6 5 := by kernel_rfl
theorem of5 {α : Type} (k0 : Int → Option α) (m : Nat) (x : Int) (nl : Bool) (r : Nat → Nat → PV) : mac_Of_L0_l0 k0 (m + 1) x nl 6 r 6 5 = mac_Of_L0_l0 k0 m (bits .or .u64 (shlI .u64 x 8) (IntKind.u64.wrap (numOf (r 5 0)))) nl 6 r 6 6 := by kernel_rfl
theorem of6 {α : Type} (k0 : Int → Option α) (m : Nat) (x : Int) (nl : Bool) (r : Nat → Nat → PV) : mac_Of_L0_l0 k0 (m + 1) x nl 6 r 6 6 = k0 x := by kernel_rfl
theorem mac_of (nl : Bool) (r : Nat → Nat → PV) (h : ∀ j, j < 6 → 0 ≤ numOf (r j 0) ∧ numOf (r j 0) ≤ 255) (α : Type) (k0 : Option α) (k1 : Int → Option α) : mac_Of nl 6 r k0 k1 = k1 (S r) := by
  have h0 := h 0 (by omega)
  have h1 := h 1 (by omega)
  have h2 := h 2 (by omega)
  have h3 := h 3 (by omega)
  have h4 := h 4 (by omega)
  have h5 := h 5 (by omega)
  have e : mac_Of nl 6 r k0 k1 = mac_Of_L0_l0 (fun x => k1 x) (1152921504606846969 + 1 + 1 + 1 + 1 + 1 + 1 + 1) 0 nl 6 r 6 0 := by kernel_rfl
  rw [e, of0, of1, of2, of3, of4, of5, of6]
  unfold S
  rw [orv 0 _ (by omega) (by omega) (by omega) (by omega), show (0 : Int) * 256 + numOf (r 0 0) = numOf (r 0 0) by omega]
  rw [orv (numOf (r 0 0)) (numOf (r 1 0)) (by omega) (by omega) (by omega) (by omega), orv (numOf (r 0 0) * 256 + numOf (r 1 0)) (numOf (r 2 0)) (by omega) (by omega) (by omega) (by omega), orv ((numOf (r 0 0) * 256 + numOf (r 1 0)) * 256 + numOf (r 2 0)) (numOf (r 3 0)) (by omega) (by omega) (by omega) (by omega), orv (((numOf (r 0 0) * 256 + numOf (r 1 0)) * 256 + numOf (r 2 0)) * 256 + numOf (r 3 0)) (numOf (r 4 0)) (by omega) (by omega) (by omega) (by omega), orv ((((numOf (r 0 0) * 256 + numOf (r 1 0)) * 256 + numOf (r 2 0)) * 256 + numOf (r 3 0)) * 256 + numOf (r 4 0)) (numOf (r 5 0)) (by omega) (by omega) (by omega) (by omega)]
/-! ### parsing -/
def Rb (N : Nat) (g : Nat → Nat → PV) : Prop := ∀ j, j < N → 0 ≤ numOf (g j 0) ∧ numOf (g j 0) ≤ 255
theorem num2 {N : Nat} {g : Nat → Nat → PV} (h : Rb N g) (hN : 14 ≤ N) : e20 g = numOf (g 12 0) * 256 + numOf (g 13 0) := by
  have h0 := h 12 (by omega)
  have h1 := h 13 (by omega)
  exact two _ _ (by omega) (by omega) (by omega) (by omega)
theorem num3 {N : Nat} {g : Nat → Nat → PV} (h : Rb N g) (hN : 18 ≤ N) : e21 g = numOf (g 14 0) * 256 + numOf (g 15 0) := by
  have h0 := h 14 (by omega)
  have h1 := h 15 (by omega)
  exact two _ _ (by omega) (by omega) (by omega) (by omega)
theorem num4 {N : Nat} {g : Nat → Nat → PV} (h : Rb N g) (hN : 18 ≤ N) : e22 g = numOf (g 16 0) * 256 + numOf (g 17 0) := by
  have h0 := h 16 (by omega)
  have h1 := h 17 (by omega)
  exact two _ _ (by omega) (by omega) (by omega) (by omega)
def A (g : Nat → Nat → PV) : Int := S fun j c => g (0 + j) c
def B (g : Nat → Nat → PV) : Int := S fun j c => g (6 + j) c
theorem parse_short {nl : Bool} {N : Nat} {g : Nat → Nat → PV} (hN : N < 14) (α : Type) (k : Int → Int → Bool → Int → Int → Int → Int → Bool → Nat → (Nat → Nat → PV) → Option α) : frame_Parse nl N g k = k 0 0 false 0 0 0 11 true 0 (fun _ _ => .val undef) := by
  unfold frame_Parse frame_Parse_T
  rw [dec_t (show (N : Int) < 14 by omega), cond_true]
theorem parse_head {nl : Bool} {N : Nat} {g : Nat → Nat → PV} (h : Rb N g) (hN : 14 ≤ N) (α : Type) (k : Int → Int → Bool → Int → Int → Int → Int → Bool → Nat → (Nat → Nat → PV) → Option α) :
    frame_Parse nl N g k = bif (e20 g == 33024) then
      bif decide (((N - 12 : Nat) : Int) < 6) then k 0 0 false 0 0 0 11 true 0 (fun _ _ => .val undef) else
      slices_Clone_byte_byte nl (N - 12 - 4 - 2) (fun j c => g (12 + (4 + (2 + j))) c) fun r s u => frame_Good (A g) (B g) true (shrI .i64 (e21 g) 13) (bits .and .i64 (e21 g) 8191) (e22 g) r s u fun x => bif !x then k 0 0 false 0 0 0 11 true 0 (fun _ _ => .val undef) else k (A g) (B g) true (shrI .i64 (e21 g) 13) (bits .and .i64 (e21 g) 8191) (e22 g) 0 r s u
    else slices_Clone_byte_byte nl (N - 12 - 2) (fun j c => g (12 + (2 + j)) c) fun r s u => frame_Good (A g) (B g) false 0 0 (e20 g) r s u fun x => bif !x then k 0 0 false 0 0 0 11 true 0 (fun _ _ => .val undef) else k (A g) (B g) false 0 0 (e20 g) 0 r s u := by
  have hA : ∀ j, j < 6 → 0 ≤ numOf ((fun j c => g (0 + j) c) j 0) ∧ numOf ((fun j c => g (0 + j) c) j 0) ≤ 255 := fun j hj => h (0 + j) (by omega)
  have hB : ∀ j, j < 6 → 0 ≤ numOf ((fun j c => g (6 + j) c) j 0) ∧ numOf ((fun j c => g (6 + j) c) j 0) ≤ 255 := fun j hj => h (6 + j) (by omega)
  unfold frame_Parse frame_Parse_T
  rw [dec_f (show ¬ (N : Int) < 14 by omega), cond_false, inb_t (show (0 : Int) ≤ 6 by omega) (show (6 : Int) < ((N + 1 : Nat) : Int) by omega), cond_true, mac_of nl _ hA]
  dsimp only
  rw [inb_t (show (0 : Int) ≤ 12 by omega) (show (12 : Int) < ((N + 1 : Nat) : Int) by omega), cond_true, mac_of nl _ hB]
  rw [inb_t (show (0 : Int) ≤ (N : Int) by omega) (show (N : Int) < ((N + 1 : Nat) : Int) by omega), dec_t (show (12 : Int) ≤ (N : Int) by omega), inb_t (show (0 : Int) ≤ 0 by omega) (show (0 : Int) < ((N - 12 : Nat) : Int) by omega), inb_t (show (0 : Int) ≤ 1 by omega) (show (1 : Int) < ((N - 12 : Nat) : Int) by omega)]
  simp only [cond_true]
  cases (e20 g == 33024) with
  | false =>
    simp only [cond_false]
    rw [inb_t (show (0 : Int) ≤ ((N - 12 : Nat) : Int) by omega) (show ((N - 12 : Nat) : Int) < ((N - 12 + 1 : Nat) : Int) by omega), dec_t (show (2 : Int) ≤ ((N - 12 : Nat) : Int) by omega)]
    rfl
  | true =>
    simp only [cond_true]
    by_cases h6 : ((N - 12 : Nat) : Int) < 6
    · rw [dec_t h6]; rfl
    rw [dec_f h6]
    simp only [cond_false]
    rw [inb_t (show (0 : Int) ≤ ((N - 12 : Nat) : Int) by omega) (show ((N - 12 : Nat) : Int) < ((N - 12 + 1 : Nat) : Int) by omega), dec_t (show (2 : Int) ≤ ((N - 12 : Nat) : Int) by omega)]
    rw [inb_t (show (0 : Int) ≤ 0 by omega) (show (0 : Int) < ((N - 12 - 2 : Nat) : Int) by omega), inb_t (show (0 : Int) ≤ 1 by omega) (show (1 : Int) < ((N - 12 - 2 : Nat) : Int) by omega), dec_t (show (4 : Int) ≤ ((N - 12 : Nat) : Int) by omega)]
    rw [inb_t (show (0 : Int) ≤ 0 by omega) (show (0 : Int) < ((N - 12 - 4 : Nat) : Int) by omega), inb_t (show (0 : Int) ≤ 1 by omega) (show (1 : Int) < ((N - 12 - 4 : Nat) : Int) by omega), inb_t (show (0 : Int) ≤ ((N - 12 - 4 : Nat) : Int) by omega) (show ((N - 12 - 4 : Nat) : Int) < ((N - 12 - 4 + 1 : Nat) : Int) by omega), dec_t (show (2 : Int) ≤ ((N - 12 - 4 : Nat) : Int) by omega)]
    rfl
theorem S_A {a b : Int} {t : Bool} {p v kd : Int} {n : Nat} {f : Nat → Nat → PV} {N : Nat} {g : Nat → Nat → PV} (h : Bytes a b t p v kd n f N g) (h0 : 0 ≤ a) (h1 : a < 281474976710656) : A g = a := by
  unfold A S
  simp only [Nat.zero_add]
  rw [h.x0, h.x1, h.x2, h.x3, h.x4, h.x5]
  omega
theorem S_B {a b : Int} {t : Bool} {p v kd : Int} {n : Nat} {f : Nat → Nat → PV} {N : Nat} {g : Nat → Nat → PV} (h : Bytes a b t p v kd n f N g) (h0 : 0 ≤ b) (h1 : b < 281474976710656) : B g = b := by
  unfold B S
  show ((((numOf (g 6 0) * 256 + numOf (g 7 0)) * 256 + numOf (g 8 0)) * 256 + numOf (g 9 0)) * 256 + numOf (g 10 0)) * 256 + numOf (g 11 0) = b
  rw [h.y0, h.y1, h.y2, h.y3, h.y4, h.y5]
  omega
theorem Bytes.rb {a b : Int} {t : Bool} {p v kd : Int} {n : Nat} {f : Nat → Nat → PV} {N : Nat} {g : Nat → Nat → PV} (h : Bytes a b t p v kd n f N g) (hf : Fit a b t p v kd n) (hb : Rb n f) : Rb N g := by
  have hl := h.len
  have k0 := hf.k0
  have k1 := hf.k1
  intro j hj
  match j, hj with
  | 0, _ => rw [h.x0]; omega
  | 1, _ => rw [h.x1]; omega
  | 2, _ => rw [h.x2]; omega
  | 3, _ => rw [h.x3]; omega
  | 4, _ => rw [h.x4]; omega
  | 5, _ => rw [h.x5]; omega
  | 6, _ => rw [h.y0]; omega
  | 7, _ => rw [h.y1]; omega
  | 8, _ => rw [h.y2]; omega
  | 9, _ => rw [h.y3]; omega
  | 10, _ => rw [h.y4]; omega
  | 11, _ => rw [h.y5]; omega
  | j + 12, hj =>
    cases t with
    | true =>
      rw [cond_true] at hl
      obtain ⟨m0, m1, m2, m3, m4, m5, m6⟩ := h.m rfl
      obtain ⟨_, hp0, hp1, hv0, hv1⟩ := hf.tag rfl
      match j, hj with
      | 0, _ => rw [show 0 + 12 = 12 from rfl, m0]; omega
      | 1, _ => rw [show 1 + 12 = 13 from rfl, m1]; omega
      | 2, _ => rw [show 2 + 12 = 14 from rfl, m2]; omega
      | 3, _ => rw [show 3 + 12 = 15 from rfl, m3]; omega
      | 4, _ => rw [show 4 + 12 = 16 from rfl, m4]; omega
      | 5, _ => rw [show 5 + 12 = 17 from rfl, m5]; omega
      | j + 6, hj => rw [show j + 6 + 12 = 18 + j by omega, m6 j (by omega)]; exact hb j (by omega)
    | false =>
      rw [cond_false] at hl
      obtain ⟨m4, m5, m6⟩ := h.w rfl
      match j, hj with
      | 0, _ => rw [show 0 + 12 = 12 from rfl, m4]; omega
      | 1, _ => rw [show 1 + 12 = 13 from rfl, m5]; omega
      | j + 2, hj => rw [show j + 2 + 12 = 14 + j by omega, m6 j (by omega)]; exact hb j (by omega)
/-- the frame of a frame's bytes -/
theorem parse_bytes {a b : Int} {t : Bool} {p v kd : Int} {n : Nat} {f : Nat → Nat → PV} {N : Nat} {g : Nat → Nat → PV} (h : Bytes a b t p v kd n f N g) (hf : Fit a b t p v kd n) (hb : Rb n f) (ha0 : 0 ≤ a) (hb0 : 0 ≤ b) :
    ∃ r : Nat → Nat → PV, (∀ j, j < n → numOf (r j 0) = numOf (f j 0)) ∧ ∀ (α : Type) (k : Int → Int → Bool → Int → Int → Int → Int → Bool → Nat → (Nat → Nat → PV) → Option α), frame_Parse false N g k = k a b t p v kd 0 false n r := by
  have hl := h.len
  have hr := h.rb hf hb
  have k0 := hf.k0
  have k1 := hf.k1
  cases t with
  | true =>
    rw [cond_true] at hl
    obtain ⟨m0, m1, m2, m3, m4, m5, m6⟩ := h.m rfl
    obtain ⟨hn, hp0, hp1, hv0, hv1⟩ := hf.tag rfl
    obtain ⟨r, hc, hrj⟩ := clone_ex false (N - 12 - 4 - 2) (fun j c => g (12 + (4 + (2 + j))) c) (fun h => by cases h) (by omega)
    refine ⟨r, fun j hj => ?_, fun α k => ?_⟩
    · rw [hrj j (by omega)]
      show numOf (g (12 + (4 + (2 + j))) 0) = _
      rw [show 12 + (4 + (2 + j)) = 18 + j by omega, m6 j hj]
    · rw [parse_head hr (by omega), num2 hr (by omega), num3 hr (by omega), num4 hr (by omega), m0, m1, m2, m3, m4, m5, S_A h ha0 hf.d, S_B h hb0 hf.s, hc]
      rw [show (p * 8192 + v) / 256 * 256 + (p * 8192 + v) % 256 = p * 8192 + v by omega, show kd / 256 * 256 + kd % 256 = kd by omega, shri13, and13 _ (by omega) (by omega), show (p * 8192 + v) / 8192 = p by omega, show (p * 8192 + v) % 8192 = v by omega]
      rw [show N - 12 - 4 - 2 = n by omega, good_fit hf ha0 hb0, dec_f (show ¬ ((N - 12 : Nat) : Int) < 6 by omega)]
      rfl
  | false =>
    rw [cond_false] at hl
    obtain ⟨m4, m5, m6⟩ := h.w rfl
    obtain ⟨hn, rfl, rfl⟩ := hf.bare rfl
    obtain ⟨r, hc, hrj⟩ := clone_ex false (N - 12 - 2) (fun j c => g (12 + (2 + j)) c) (fun h => by cases h) (by omega)
    refine ⟨r, fun j hj => ?_, fun α k => ?_⟩
    · rw [hrj j (by omega)]
      show numOf (g (12 + (2 + j)) 0) = _
      rw [show 12 + (2 + j) = 14 + j by omega, m6 j hj]
    · rw [parse_head hr (by omega), num2 hr (by omega), m4, m5, S_A h ha0 hf.d, S_B h hb0 hf.s, hc]
      rw [show kd / 256 * 256 + kd % 256 = kd by omega, beq_eq_false_iff_ne.2 hf.k2, cond_false, show N - 12 - 2 = n by omega, good_fit hf ha0 hb0]
      rfl
/-- the frame of any bytes, or that there is none -/
theorem parse_cases {nl : Bool} {N : Nat} {g : Nat → Nat → PV} (hr : Rb N g) (hN : N ≤ 100000) (hnl : nl = true → N = 0) :
    (∀ (α : Type) (k : Int → Int → Bool → Int → Int → Int → Int → Bool → Nat → (Nat → Nat → PV) → Option α), frame_Parse nl N g k = k 0 0 false 0 0 0 11 true 0 (fun _ _ => .val undef)) ∨
    ∃ a b t p v kd rnl n r, 0 ≤ a ∧ 0 ≤ b ∧ Fit a b t p v kd n ∧ Bytes a b t p v kd n r N g ∧ ∀ (α : Type) (k : Int → Int → Bool → Int → Int → Int → Int → Bool → Nat → (Nat → Nat → PV) → Option α), frame_Parse nl N g k = k a b t p v kd 0 rnl n r := by
  by_cases h14 : N < 14
  · exact .inl fun α k => parse_short h14 α k
  have b0 := hr 0 (by omega)
  have b1 := hr 1 (by omega)
  have b2 := hr 2 (by omega)
  have b3 := hr 3 (by omega)
  have b4 := hr 4 (by omega)
  have b5 := hr 5 (by omega)
  have b6 := hr 6 (by omega)
  have b7 := hr 7 (by omega)
  have b8 := hr 8 (by omega)
  have b9 := hr 9 (by omega)
  have b10 := hr 10 (by omega)
  have b11 := hr 11 (by omega)
  have b12 := hr 12 (by omega)
  have b13 := hr 13 (by omega)
  have eA : A g = ((((numOf (g 0 0) * 256 + numOf (g 1 0)) * 256 + numOf (g 2 0)) * 256 + numOf (g 3 0)) * 256 + numOf (g 4 0)) * 256 + numOf (g 5 0) := rfl
  have eB : B g = ((((numOf (g 6 0) * 256 + numOf (g 7 0)) * 256 + numOf (g 8 0)) * 256 + numOf (g 9 0)) * 256 + numOf (g 10 0)) * 256 + numOf (g 11 0) := rfl
  have hA : 0 ≤ A g := by omega
  have hB : 0 ≤ B g := by omega
  have hd : ∀ (α : Type) k, _ := fun α k => parse_head (nl := nl) hr (show 14 ≤ N by omega) α k
  have e2 := num2 hr (show 14 ≤ N by omega)
  by_cases ht : e20 g = 33024
  · rw [ht] at hd
    by_cases h6 : ((N - 12 : Nat) : Int) < 6
    · refine .inl fun α k => ?_
      rw [hd, dec_t h6]
      rfl
    have b14 := hr 14 (by omega)
    have b15 := hr 15 (by omega)
    have b16 := hr 16 (by omega)
    have b17 := hr 17 (by omega)
    have e3 := num3 hr (show 18 ≤ N by omega)
    have e4 := num4 hr (show 18 ≤ N by omega)
    obtain ⟨r, hc, hrj⟩ := clone_ex nl (N - 12 - 4 - 2) (fun j c => g (12 + (4 + (2 + j))) c) (fun h => by have := hnl h; omega) (by omega)
    simp only [dec_f h6, beq_self_eq_true, cond_true, cond_false, hc, shri13, and13 (e21 g) (by omega) (by omega)] at hd
    rcases good_cases (A g) (B g) true (e21 g / 8192) (e21 g % 8192) (e22 g) nl (N - 12 - 4 - 2) r hA hB with hg | ⟨hf, hg⟩
    · refine .inl fun α k => ?_
      rw [hd, hg]
      rfl
    · refine .inr ⟨A g, B g, true, e21 g / 8192, e21 g % 8192, e22 g, nl, N - 12 - 4 - 2, r, hA, hB, hf, ⟨by rw [cond_true]; omega, by omega, by omega, by omega, by omega, by omega, by omega, by omega, by omega, by omega, by omega, by omega, by omega, fun _ => ⟨by omega, by omega, by omega, by omega, by omega, by omega, fun j hj => ?_⟩, fun h => by cases h⟩, fun α k => ?_⟩
      · rw [hrj j hj]
        show _ = numOf (g (12 + (4 + (2 + j))) 0)
        rw [show 12 + (4 + (2 + j)) = 18 + j by omega]
      · rw [hd, hg]
        rfl
  · rw [beq_eq_false_iff_ne.2 ht] at hd
    obtain ⟨r, hc, hrj⟩ := clone_ex nl (N - 12 - 2) (fun j c => g (12 + (2 + j)) c) (fun h => by have := hnl h; omega) (by omega)
    simp only [cond_false, hc] at hd
    rcases good_cases (A g) (B g) false 0 0 (e20 g) nl (N - 12 - 2) r hA hB with hg | ⟨hf, hg⟩
    · refine .inl fun α k => ?_
      rw [hd, hg]
      rfl
    · refine .inr ⟨A g, B g, false, 0, 0, e20 g, nl, N - 12 - 2, r, hA, hB, hf, ⟨by rw [cond_false]; omega, by omega, by omega, by omega, by omega, by omega, by omega, by omega, by omega, by omega, by omega, by omega, by omega, (fun h => by cases h), fun _ => ⟨by omega, by omega, fun j hj => ?_⟩⟩, fun α k => ?_⟩
      · rw [hrj j hj]
        show _ = numOf (g (12 + (2 + j)) 0)
        rw [show 12 + (2 + j) = 14 + j by omega]
      · rw [hd, hg]
        rfl
theorem keep_same (a b : Int) (t : Bool) (p v kd : Int) (nl nl' : Bool) (n : Nat) (f g : Nat → Nat → PV) (h : ∀ j, j < n → numOf (f j 0) = numOf (g j 0)) (α : Type) (k : Bool → Option α) : keep_Frames a b t p v kd nl n f a b t p v kd nl' n g k = k true := by
  unfold keep_Frames keep_Frames_T
  simp only [beq_self_eq_true, cond_true, strOf_num h]
theorem q3 {α : Type} (x1 : Bool) (x2 : Nat) (x3 : Nat → Nat → PV) (x4 a b : Int) (t : Bool) (p v kd : Int) (nl : Bool) (n : Nat) (f : Nat → Nat → PV) (ha : 0 ≤ a) (hb : 0 ≤ b) (hf : Rb n f) (k0 : Bool → Nat → (Nat → Nat → PV) → Int → Int → Int → Bool → Int → Int → Int → Bool → Nat → (Nat → Nat → PV) → Option α) (k1 : Option α) :
    law10_FrameBack_Q3 x1 x2 x3 x4 a b t p v kd nl n f k0 k1 = k0 x1 x2 x3 x4 a b t p v kd nl n f := by
  unfold law10_FrameBack_Q3 law10_FrameBack_Q3_T
  rcases enc_cases a b t p v kd nl n f ha hb with hE | ⟨hfit, N, g, hB, hE⟩
  · rw [hE]
  · obtain ⟨r, hr, hP⟩ := parse_bytes hB hfit hf ha hb
    rw [hE, hP, keep_same _ _ _ _ _ _ _ _ _ _ _ hr]
    rfl
theorem q8 {α : Type} (x1 : Bool) (x2 : Nat) (x3 : Nat → Nat → PV) (x4 a b : Int) (t : Bool) (p v kd : Int) (nl : Bool) (n : Nat) (f : Nat → Nat → PV) (hr : Rb x2 x3) (hn : x2 ≤ 100000) (hnl : x1 = true → x2 = 0) (k0 : Option α) (k1 : Int → Int → Int → Bool → Int → Int → Int → Bool → Nat → (Nat → Nat → PV) → Option α) :
    law10_FrameBack_Q8 x1 x2 x3 x4 a b t p v kd nl n f k0 k1 = k1 x4 a b t p v kd nl n f := by
  unfold law10_FrameBack_Q8 law10_FrameBack_Q8_T
  rcases parse_cases hr hn hnl with hP | ⟨a', b', t', p', v', kd', rnl, n', r, ha, hb, hf, hB, hP⟩
  · rw [hP]
    rfl
  · rw [hP]
    obtain ⟨N, g, hB', hE⟩ := enc_fit hf ha hb rnl r
    obtain ⟨e1, e2⟩ := hB'.same hB (fun _ _ => rfl)
    rw [hE, e2]
    simp only [beq_self_eq_true, cond_true, cond_false, Bool.not_true]
theorem main {α : Type} (a_1 : Int) (a_2 : Int) (a_3 : Bool) (a_4 : Int) (a_5 : Int) (a_6 : Int) (a_7 : Bool) (a_8 : Nat) (a_9 : Nat → Nat → PV) (a_10 : Bool) (a_11 : Nat) (a_12 : Nat → Nat → PV) (a_13 : Int) (h_1 : PvOk (.val (.int .u64 a_1))) (h_2 : PvOk (.val (.int .u64 a_2))) (h_4 : PvOk (.val (.int .i64 a_4))) (h_5 : PvOk (.val (.int .i64 a_5))) (h_6 : PvOk (.val (.int .i64 a_6))) (h_7 : PvOk (.sl a_7 (.int .u8 .nil) 1 a_8 a_9)) (k_7 : RowK (.int .u8 .nil) a_8 a_9) (h_10 : PvOk (.sl a_10 (.int .u8 .nil) 1 a_11 a_12)) (k_10 : RowK (.int .u8 .nil) a_11 a_12) (h_13 : PvOk (.val (.int .u16 a_13))) (k0 k1 : Option α) : law10_FrameBack a_1 a_2 a_3 a_4 a_5 a_6 a_7 a_8 a_9 a_10 a_11 a_12 a_13 k0 k1 = k0 := by
  have ha := (pv_u64 h_1).1
  have hb := (pv_u64 h_2).1
  have hv := pv_u16 h_13
  unfold law10_FrameBack law10_FrameBack_T
  by_cases hn : (a_8 : Int) > 2000
  · rw [dec_t hn, cond_true]
  by_cases hm : (a_11 : Int) > 2000
  · rw [dec_f hn, dec_t hm, cond_true, cond_false]
  rw [dec_f hn, dec_f hm, cond_false, cond_false]
  rw [q3 _ _ _ _ _ _ _ _ _ _ _ _ _ ha hb (fun j hj => byte_of h_7 k_7 j hj)]
  rw [q8 _ _ _ _ _ _ _ _ _ _ _ _ _ (fun j hj => byte_of h_10 k_10 j hj) (by omega) (pv_sl h_10).2.1]
  have hw : ∃ v : Int, IntKind.i64.wrap (1 + ((IntKind.i64.wrap a_13).tmod 4094)) = v ∧ 1 ≤ v ∧ v < 4095 := by
    refine ⟨_, rfl, ?_⟩
    rw [i64_id (n := a_13) (by omega) (by omega), Int.tmod_eq_emod_of_nonneg hv.1, i64_id (by omega) (by omega)]
    omega
  obtain ⟨v, hv0, hv1, hv2⟩ := hw
  rw [hv0]
  unfold frame_Tagged frame_Tagged_T
  rw [dec_f (show ¬ v < 1 by omega), dec_f (show ¬ v ≥ 4095 by omega)]
  obtain ⟨r, hc, hr⟩ := clone_ex a_7 a_8 a_9 (pv_sl h_7).2.1 (by omega)
  obtain ⟨r2, hc2, hr2⟩ := clone_ex a_7 a_8 r (pv_sl h_7).2.1 (by omega)
  have hk : ∀ j, j < a_8 → numOf (r2 j 0) = numOf (r j 0) := fun j hj => by rw [hr2 j hj]
  cases a_3 with
  | false =>
    simp only [cond_false, cond_true, Bool.not_false, hc, hc2, keep_same _ _ _ _ _ _ _ _ _ _ _ hk, Bool.not_true]
    rcases good_cases a_1 a_2 false a_4 a_5 a_6 a_7 a_8 a_9 ha hb with hg | ⟨hf, hg⟩
    · rw [hg]; rfl
    rw [hg]
    by_cases h15 : (a_8 : Int) > 1500
    · rw [dec_t h15]; rfl
    have f1 : Fit a_1 a_2 true 0 v a_6 a_8 := ⟨hf.d, hf.s, hf.g, hf.k0, hf.k1, hf.k2, (fun h => by cases h), fun _ => ⟨by omega, by omega, by omega, by omega, by omega⟩⟩
    have f2 : Fit a_1 a_2 false 0 0 a_6 a_8 := ⟨hf.d, hf.s, hf.g, hf.k0, hf.k1, hf.k2, fun _ => ⟨by omega, rfl, rfl⟩, (fun h => by cases h)⟩
    rw [dec_f h15, good_fit f1 ha hb, good_fit f2 ha hb]
    rfl
  | true =>
    simp only [cond_false, cond_true, Bool.not_false, hc, hc2, keep_same _ _ _ _ _ _ _ _ _ _ _ hk, Bool.not_true]
    rcases good_cases a_1 a_2 true a_4 a_5 a_6 a_7 a_8 a_9 ha hb with hg | ⟨hf, hg⟩
    · rw [hg]; rfl
    rw [hg]
    obtain ⟨hn2, hp0, hp1, hv3, hv4⟩ := hf.tag rfl
    by_cases h15 : (a_8 : Int) > 1500
    · rw [dec_t h15]; rfl
    have f1 : Fit a_1 a_2 true a_4 v a_6 a_8 := ⟨hf.d, hf.s, hf.g, hf.k0, hf.k1, hf.k2, (fun h => by cases h), fun _ => ⟨by omega, by omega, by omega, by omega, by omega⟩⟩
    have f2 : Fit a_1 a_2 false 0 0 a_6 a_8 := ⟨hf.d, hf.s, hf.g, hf.k0, hf.k1, hf.k2, fun _ => ⟨by omega, rfl, rfl⟩, (fun h => by cases h)⟩
    rw [dec_f h15, good_fit f1 ha hb, good_fit f2 ha hb]
    rfl
end Go.Proofs.Ytampnnhdgnhjaaa.FrameBack

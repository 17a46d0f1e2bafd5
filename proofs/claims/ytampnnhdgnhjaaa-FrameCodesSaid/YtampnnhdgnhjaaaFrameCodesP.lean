/- FrameCodes: what the code comes to answers true: plain numbers and rows, no program in sight. -/
import Derived.Test.YtampnnhdgnhjaaaFrameCodesU
import Derived.Test.YtampnnhdgnhjaaaVe26
set_option linter.unusedVariables false
set_option linter.unusedSimpArgs false
namespace Go.Proofs.Ytampnnhdgnhjaaa.FrameCodes
open Go.Ve
theorem bnd {n : Nat} (h : n ≤ 200000) : Nat.ble (n * 1) bound = true := ble_true (by unfold bound; omega)
theorem dec_congr {p q : Prop} [Decidable p] [Decidable q] (h : p ↔ q) : decide p = decide q := by
  by_cases hp : p
  · rw [dec_t hp, dec_t (h.1 hp)]
  · rw [dec_f hp, dec_f (fun hq => hp (h.2 hq))]
theorem group_eq {α : Type} (a : Int) (h : 0 ≤ a) (k : Bool → Option α) : ref09_Group a k = mac_Group a k := by
  unfold ref09_Group ref09_Group_T mac_Group mac_Group_T
  rw [shr48 h]
theorem group_ex (a : Int) : ∃ x : Bool, ∀ (α : Type) (k : Bool → Option α), mac_Group a k = k x := by
  unfold mac_Group mac_Group_T
  generalize (shrI .u64 a 48 == 0) = c1
  cases c1 <;> exact ⟨_, fun _ _ => rfl⟩
theorem ref_eq {α : Type} (a b : Int) (t : Bool) (p v kd : Int) (nl : Bool) (n : Nat) (f : Nat → Nat → PV) (ha : 0 ≤ a) (hb : 0 ≤ b) (k : Bool → Option α) : ref10_Good a b t p v kd nl n f k = frame_Good_v1 a b t p v kd nl n f k := by
  unfold ref10_Good ref10_Good_T frame_Good_v1 frame_Good_v1_T frame_room frame_room_T
  simp only [group_eq _ hb, shr48 ha, shr48 hb]
  have e1 : decide (kd > 65535) = decide (kd ≥ 65536) := dec_congr (by omega)
  have e2 : decide (p ≤ 7) = decide (p < 8) := dec_congr (by omega)
  have e3 : decide (v ≤ 4095) = decide (v < 4096) := dec_congr (by omega)
  cases t <;> simp only [cond_true, cond_false, Bool.not_true, Bool.not_false, e1, e2, e3]
theorem own_eq {α : Type} (a b : Int) (t : Bool) (p v kd : Int) (nl : Bool) (n : Nat) (f : Nat → Nat → PV) (k : Bool → Nat → (Nat → Nat → PV) → Option α) : frame_Good a b t p v kd n f k = frame_Good_v1 a b t p v kd nl n f (fun x => k x n f) := by
  unfold frame_Good frame_Good_T frame_Good_v1 frame_Good_v1_T frame_room frame_room_T
  cases t <;> rfl
theorem ref1_eq {α : Type} (a b p v kd : Int) (n : Nat) (f : Nat → Nat → PV) (ha : 0 ≤ a) (hb : 0 ≤ b) (k : Bool → Nat → (Nat → Nat → PV) → Option α) : ref10_Good_v1 a b p v kd n f k = frame_Good a b true p v kd n f k := by
  unfold ref10_Good_v1 ref10_Good_v1_T frame_Good frame_Good_T frame_room frame_room_T
  simp only [group_eq _ hb, shr48 ha, shr48 hb]
  have e1 : decide (kd > 65535) = decide (kd ≥ 65536) := dec_congr (by omega)
  have e2 : decide (p ≤ 7) = decide (p < 8) := dec_congr (by omega)
  have e3 : decide (v ≤ 4095) = decide (v < 4096) := dec_congr (by omega)
  simp only [cond_true, cond_false, Bool.not_true, Bool.not_false, e1, e2, e3]
theorem ref2_eq {α : Type} (a b kd : Int) (n : Nat) (f : Nat → Nat → PV) (ha : 0 ≤ a) (hb : 0 ≤ b) (k0 k1 : Nat → (Nat → Nat → PV) → Option α) : ref10_Good_v2 a b kd n f k0 k1 = frame_Good a b false 0 0 kd n f (fun x m g => bif x then k1 m g else k0 m g) := by
  unfold ref10_Good_v2 ref10_Good_v2_T frame_Good frame_Good_T frame_room frame_room_T
  simp only [group_eq _ hb, shr48 ha, shr48 hb]
  have e1 : decide (kd > 65535) = decide (kd ≥ 65536) := dec_congr (by omega)
  simp only [cond_true, cond_false, Bool.not_true, Bool.not_false, e1, beq_self_eq_true]
/-- what Good frames are -/
structure Fit (a b : Int) (t : Bool) (p v kd : Int) (n : Nat) : Prop where
  d : a < 281474976710656
  s : b < 281474976710656
  k0 : 0 ≤ kd
  k1 : kd < 65536
  k2 : kd ≠ 33024
  bare : t = false → n ≤ 1504 ∧ p = 0 ∧ v = 0
  tag : t = true → n ≤ 1500 ∧ 0 ≤ p ∧ p < 8 ∧ 0 ≤ v ∧ v < 4096
theorem good_cases (a b : Int) (t : Bool) (p v kd : Int) (nl : Bool) (n : Nat) (f : Nat → Nat → PV) (ha : 0 ≤ a) (hb : 0 ≤ b) :
    (∀ (α : Type) (k : Bool → Option α), frame_Good_v1 a b t p v kd nl n f k = k false) ∨ (Fit a b t p v kd n ∧ ∀ (α : Type) (k : Bool → Option α), frame_Good_v1 a b t p v kd nl n f k = k true) := by
  obtain ⟨g, hg⟩ := group_ex b
  unfold frame_Good_v1 frame_Good_v1_T frame_room frame_room_T
  simp only [hg, shr48 ha, shr48 hb]
  by_cases h1 : a < 281474976710656
  rotate_left; · rw [dec_f h1]; exact .inl fun _ _ => rfl
  by_cases h2 : b < 281474976710656
  rotate_left; · rw [dec_f h2]; exact .inl fun _ _ => by rw [dec_t h1]; rfl
  rw [dec_t h1, dec_t h2]
  cases g with
  | true => exact .inl fun _ _ => rfl
  | false =>
  by_cases h3 : kd < 0
  · rw [dec_t h3]; exact .inl fun _ _ => rfl
  by_cases h4 : kd ≥ 65536
  · rw [dec_t h4, dec_f h3]; exact .inl fun _ _ => rfl
  rw [dec_f h3, dec_f h4]
  by_cases h5 : kd = 33024
  · rw [h5]; exact .inl fun _ _ => rfl
  rw [beq_eq_false_iff_ne.2 h5]
  cases t with
  | false =>
    simp only [cond_true, cond_false, Bool.not_true, Bool.not_false]
    by_cases h6 : (n : Int) > 1504
    · rw [dec_t h6]; exact .inl fun _ _ => rfl
    rw [dec_f h6]
    by_cases h7 : p = 0
    rotate_left; · rw [beq_eq_false_iff_ne.2 h7]; exact .inl fun _ _ => rfl
    by_cases h8 : v = 0
    rotate_left; · rw [h7, beq_eq_false_iff_ne.2 h8]; exact .inl fun _ _ => rfl
    rw [h7, h8]
    exact .inr ⟨⟨h1, h2, by omega, by omega, h5, fun _ => ⟨by omega, rfl, rfl⟩, fun h => by cases h⟩, fun _ _ => rfl⟩
  | true =>
    simp only [cond_true, cond_false, Bool.not_true, Bool.not_false]
    by_cases h6 : (n : Int) > 1500
    · rw [dec_t h6]; exact .inl fun _ _ => rfl
    rw [dec_f h6]
    by_cases h7 : p ≥ 0
    rotate_left; · rw [dec_f h7]; exact .inl fun _ _ => rfl
    by_cases h8 : p < 8
    rotate_left; · rw [dec_t h7, dec_f h8]; exact .inl fun _ _ => rfl
    by_cases h9 : v ≥ 0
    rotate_left; · rw [dec_t h7, dec_t h8, dec_f h9]; exact .inl fun _ _ => rfl
    by_cases h10 : v < 4096
    rotate_left; · rw [dec_t h7, dec_t h8, dec_t h9, dec_f h10]; exact .inl fun _ _ => rfl
    rw [dec_t h7, dec_t h8, dec_t h9, dec_t h10]
    exact .inr ⟨⟨h1, h2, by omega, by omega, h5, (fun h => by cases h), fun _ => ⟨by omega, by omega, by omega, by omega, by omega⟩⟩, fun _ _ => rfl⟩
theorem hi_t (x : Int) (h0 : 0 ≤ x) (h1 : x < 65536) : IntKind.u8.wrap (IntKind.i64.wrap (x.tdiv 256)) = IntKind.u8.wrap (shrI .i64 x 8) := by
  rw [hi2 x h0 h1, Int.tdiv_eq_ediv_of_nonneg h0, i64_id (by omega) (by omega), wrap_u8]
  omega
theorem lo_t (x : Int) (h0 : 0 ≤ x) (h1 : x < 65536) : IntKind.u8.wrap (x.tmod 256) = IntKind.u8.wrap x := by
  rw [wrap_u8, wrap_u8, Int.tmod_eq_emod_of_nonneg h0]
  omega
theorem rows_t (a b p v kd : Int) (n : Nat) (f : Nat → Nat → PV) (h : Fit a b true p v kd n) : strOf (18 + n) (catf 18 (catf 16 (catf 12 (e8 a b) (catf 2 (e4) (e2 p v))) (e1 kd)) f) = strOf (18 + n) (catf 18 (catf 16 (e15 a b p v) (e12 kd)) f) := by
  have hk0 := h.k0
  have hk1 := h.k1
  refine strOf_congr fun j hj => ?_
  obtain ⟨_, hp0, hp1, hv0, hv1⟩ := h.tag rfl
  have ep : IntKind.i64.wrap ((IntKind.i64.wrap (p * 8192)) + v) = p * 8192 + v := by rw [i64_id (n := p * 8192) (by omega) (by omega), i64_id (by omega) (by omega)]
  by_cases hl : 18 ≤ j
  · obtain ⟨i, rfl⟩ : ∃ i, j = 18 + i := ⟨j - 18, by omega⟩
    rw [catf_hi, catf_hi]
  match j, hl with
  | 0, _ =>
    show (_ : PV) = _
    kernel_rfl
  | 1, _ =>
    show (_ : PV) = _
    kernel_rfl
  | 2, _ =>
    show (_ : PV) = _
    kernel_rfl
  | 3, _ =>
    show (_ : PV) = _
    kernel_rfl
  | 4, _ =>
    show (_ : PV) = _
    kernel_rfl
  | 5, _ => exact (show _ = PV.val (.int .u8 (IntKind.u8.wrap (shrI .u64 a 0))) by kernel_rfl).trans (by rw [shr0]; kernel_rfl)
  | 6, _ =>
    show (_ : PV) = _
    kernel_rfl
  | 7, _ =>
    show (_ : PV) = _
    kernel_rfl
  | 8, _ =>
    show (_ : PV) = _
    kernel_rfl
  | 9, _ =>
    show (_ : PV) = _
    kernel_rfl
  | 10, _ =>
    show (_ : PV) = _
    kernel_rfl
  | 11, _ => exact (show _ = PV.val (.int .u8 (IntKind.u8.wrap (shrI .u64 b 0))) by kernel_rfl).trans (by rw [shr0]; kernel_rfl)
  | 12, _ =>
    show (_ : PV) = _
    kernel_rfl
  | 13, _ =>
    show (_ : PV) = _
    kernel_rfl
  | 14, _ => exact (show _ = PV.val (.int .u8 (IntKind.u8.wrap (shrI .i64 (bits .or .i64 (shlI .i64 p 13) v) 8))) by kernel_rfl).trans (by rw [tagn p v hp0 hp1 hv0 (by omega), ← hi_t _ (by omega) (by omega), ← ep]; kernel_rfl)
  | 15, _ => exact (show _ = PV.val (.int .u8 (IntKind.u8.wrap (bits .or .i64 (shlI .i64 p 13) v))) by kernel_rfl).trans (by rw [tagn p v hp0 hp1 hv0 (by omega), ← lo_t _ (by omega) (by omega), ← ep]; kernel_rfl)
  | 16, _ => exact (show _ = PV.val (.int .u8 (IntKind.u8.wrap (shrI .i64 kd 8))) by kernel_rfl).trans (by rw [← hi_t kd hk0 hk1]; kernel_rfl)
  | 17, _ => exact (show _ = PV.val (.int .u8 (IntKind.u8.wrap kd)) by kernel_rfl).trans (by rw [← lo_t kd hk0 hk1]; kernel_rfl)
  | j + 18, hl => omega
theorem rows_f (a b p v kd : Int) (n : Nat) (f : Nat → Nat → PV) (h : Fit a b false p v kd n) : strOf (14 + n) (catf 14 (catf 12 (catf 12 (e8 a b) (fun _ _ => .val undef)) (e1 kd)) f) = strOf (14 + n) (catf 14 (catf 12 (catf 6 (e11 a) (e11 b)) (e12 kd)) f) := by
  have hk0 := h.k0
  have hk1 := h.k1
  refine strOf_congr fun j hj => ?_
  by_cases hl : 14 ≤ j
  · obtain ⟨i, rfl⟩ : ∃ i, j = 14 + i := ⟨j - 14, by omega⟩
    rw [catf_hi, catf_hi]
  match j, hl with
  | 0, _ =>
    show (_ : PV) = _
    kernel_rfl
  | 1, _ =>
    show (_ : PV) = _
    kernel_rfl
  | 2, _ =>
    show (_ : PV) = _
    kernel_rfl
  | 3, _ =>
    show (_ : PV) = _
    kernel_rfl
  | 4, _ =>
    show (_ : PV) = _
    kernel_rfl
  | 5, _ => exact (show _ = PV.val (.int .u8 (IntKind.u8.wrap (shrI .u64 a 0))) by kernel_rfl).trans (by rw [shr0]; kernel_rfl)
  | 6, _ =>
    show (_ : PV) = _
    kernel_rfl
  | 7, _ =>
    show (_ : PV) = _
    kernel_rfl
  | 8, _ =>
    show (_ : PV) = _
    kernel_rfl
  | 9, _ =>
    show (_ : PV) = _
    kernel_rfl
  | 10, _ =>
    show (_ : PV) = _
    kernel_rfl
  | 11, _ => exact (show _ = PV.val (.int .u8 (IntKind.u8.wrap (shrI .u64 b 0))) by kernel_rfl).trans (by rw [shr0]; kernel_rfl)
  | 12, _ => exact (show _ = PV.val (.int .u8 (IntKind.u8.wrap (shrI .i64 kd 8))) by kernel_rfl).trans (by rw [← hi_t kd hk0 hk1]; kernel_rfl)
  | 13, _ => exact (show _ = PV.val (.int .u8 (IntKind.u8.wrap kd)) by kernel_rfl).trans (by rw [← lo_t kd hk0 hk1]; kernel_rfl)
  | j + 14, hl => omega
theorem enc_cases (a b : Int) (t : Bool) (p v kd : Int) (nl : Bool) (n : Nat) (f : Nat → Nat → PV) (ha : 0 ≤ a) (hb : 0 ≤ b) (hn : n ≤ 100000) :
    (∀ (α : Type) (k0 : Nat → (Nat → Nat → PV) → Option α) k1 (k0' : Option α) k1', frame_Encode a b t p v kd n f k0 k1 = k0 n f ∧ ref10_Encode a b t p v kd nl n f k0' k1' = k0') ∨
    ∃ N g g', strOf N g = strOf N g' ∧ ∀ (α : Type) (k0 : Nat → (Nat → Nat → PV) → Option α) k1 (k0' : Option α) k1', frame_Encode a b t p v kd n f k0 k1 = k1 n f N g ∧ ref10_Encode a b t p v kd nl n f k0' k1' = k1' N g' := by
  unfold frame_Encode frame_Encode_T ref10_Encode ref10_Encode_T
  simp only [own_eq a b t p v kd nl n f, ref_eq a b t p v kd nl n f ha hb]
  rcases good_cases a b t p v kd nl n f ha hb with hg | ⟨hf, hg⟩
  · exact .inl fun _ _ _ _ _ => by simp only [hg]; exact ⟨rfl, rfl⟩
  refine .inr ?_
  simp only [hg, Bool.not_true, cond_false]
  cases t with
  | true =>
    refine ⟨_, _, _, rows_t a b p v kd n f hf, fun α k0 k1 k0' k1' => ?_⟩
    rw [bnd (show 18 + n ≤ 200000 by omega)]
    have e1 : IntKind.i64.wrap (18 + (n : Int)) = ((18 + n : Nat) : Int) := by rw [i64_id (by omega) (by omega)]; omega
    have e2 : IntKind.i64.wrap (((18 + n : Nat) : Int) - 0) = ((18 + n : Nat) : Int) := by rw [i64_id (by omega) (by omega)]; omega
    have e3 : Nat.beq (18 + n) 0 = false := by rw [Nat.add_comm]; rfl
    simp only [e1, e2, Int.toNat_natCast, e3, cond_true, cond_false]
    rw [bnd (show 18 + n ≤ 200000 by omega)]
    simp (disch := omega) only [dec_f, dec_t, inb_t, cond_true, cond_false, Bool.and_self, ble_true, and_self]
  | false =>
    refine ⟨_, _, _, rows_f a b p v kd n f hf, fun α k0 k1 k0' k1' => ?_⟩
    rw [bnd (show 14 + n ≤ 200000 by omega)]
    have e1 : IntKind.i64.wrap (14 + (n : Int)) = ((14 + n : Nat) : Int) := by rw [i64_id (by omega) (by omega)]; omega
    have e2 : IntKind.i64.wrap (((14 + n : Nat) : Int) - 0) = ((14 + n : Nat) : Int) := by rw [i64_id (by omega) (by omega)]; omega
    have e3 : Nat.beq (14 + n) 0 = false := by rw [Nat.add_comm]; rfl
    simp only [e1, e2, Int.toNat_natCast, e3, cond_true, cond_false]
    rw [bnd (show 14 + n ≤ 200000 by omega)]
    simp (disch := omega) only [dec_f, dec_t, inb_t, cond_true, cond_false, Bool.and_self, ble_true, and_self]
theorem good_ex (a b : Int) (t : Bool) (p v kd : Int) (n : Nat) (f : Nat → Nat → PV) (ha : 0 ≤ a) (hb : 0 ≤ b) : ∃ x : Bool, ∀ (α : Type) (k : Bool → Nat → (Nat → Nat → PV) → Option α), frame_Good a b t p v kd n f k = k x n f := by
  rcases good_cases a b t p v kd false n f ha hb with hg | ⟨_, hg⟩
  · exact ⟨false, fun α k => by rw [own_eq a b t p v kd false]; exact hg _ _⟩
  · exact ⟨true, fun α k => by rw [own_eq a b t p v kd false]; exact hg _ _⟩
theorem dst_eq (F : Nat → Nat → PV) (hb : ∀ j, j < 14 → 0 ≤ numOf (F j 0) ∧ numOf (F j 0) ≤ 255) : IntKind.u64.wrap ((shlI .u64 (e27 F) 8) + (IntKind.u64.wrap (numOf (F 5 0)))) = e18 F := by
  simp only [e27, e26, e25, e18, e17, e16, orw _ (hb 1 (by omega)), orw _ (hb 2 (by omega)), orw _ (hb 3 (by omega)), orw _ (hb 4 (by omega)), orw _ (hb 5 (by omega)), orw0 (hb 0 (by omega))]
theorem src_eq (F : Nat → Nat → PV) (hb : ∀ j, j < 14 → 0 ≤ numOf (F j 0) ∧ numOf (F j 0) ≤ 255) : IntKind.u64.wrap ((shlI .u64 (e30 F) 8) + (IntKind.u64.wrap (numOf (F 11 0)))) = e21 F := by
  simp only [e30, e29, e28, e21, e20, e19, orw _ (hb 7 (by omega)), orw _ (hb 8 (by omega)), orw _ (hb 9 (by omega)), orw _ (hb 10 (by omega)), orw _ (hb 11 (by omega)), orw0 (hb 6 (by omega))]
theorem two' (b c : Int) (h0 : 0 ≤ b) (h1 : b < 256) (hc : 0 ≤ c) (hc1 : c < 256) : IntKind.i64.wrap ((IntKind.i64.wrap ((IntKind.i64.wrap b) * 256)) + (IntKind.i64.wrap c)) = b * 256 + c := by
  rw [i64_id (n := b) (by omega) (by omega), i64_id (n := c) (by omega) (by omega), i64_id (n := b * 256) (by omega) (by omega), i64_id (by omega) (by omega)]
theorem pp0 (M : Nat) (F : Nat → Nat → PV) (h : M < 14) (α : Type) (k0 : Nat → (Nat → Nat → PV) → Option α) (k1 : Int → Int → Int → Int → Int → Nat → (Nat → Nat → PV) → Nat → (Nat → Nat → PV) → Option α) (k2 : Int → Int → Int → Nat → (Nat → Nat → PV) → Nat → (Nat → Nat → PV) → Option α) : frame_Parse M F k0 k1 k2 = k0 M F := by
  unfold frame_Parse frame_Parse_T
  rw [dec_t (show (M : Int) < 14 by omega), cond_true]
theorem rp0 (nl : Bool) (M : Nat) (F : Nat → Nat → PV) (h : M < 14) (α : Type) (k0 : Option α) (k1 : Int → Int → Int → Int → Int → Nat → (Nat → Nat → PV) → Option α) (k2 : Int → Int → Int → Nat → (Nat → Nat → PV) → Option α) : ref10_Parse nl M F k0 k1 k2 = k0 := by
  unfold ref10_Parse ref10_Parse_T
  rw [dec_t (show (M : Int) < 14 by omega), cond_true]
theorem pp1 (M : Nat) (F : Nat → Nat → PV) (h : 14 ≤ M) (h' : M < 18) (c : e22 F = 33024) (α : Type) (k0 : Nat → (Nat → Nat → PV) → Option α) (k1 : Int → Int → Int → Int → Int → Nat → (Nat → Nat → PV) → Nat → (Nat → Nat → PV) → Option α) (k2 : Int → Int → Int → Nat → (Nat → Nat → PV) → Nat → (Nat → Nat → PV) → Option α) : frame_Parse M F k0 k1 k2 = k0 M F := by
  unfold frame_Parse frame_Parse_T
  rw [c, beq_self_eq_true]
  simp (disch := omega) only [dec_f, dec_t, inb_t, cond_true, cond_false]
theorem rp1 (nl : Bool) (M : Nat) (F : Nat → Nat → PV) (h : 14 ≤ M) (h' : M < 18) (c : numOf (F 12 0) = 129) (d : numOf (F 13 0) = 0) (α : Type) (k0 : Option α) (k1 : Int → Int → Int → Int → Int → Nat → (Nat → Nat → PV) → Option α) (k2 : Int → Int → Int → Nat → (Nat → Nat → PV) → Option α) : ref10_Parse nl M F k0 k1 k2 = k0 := by
  unfold ref10_Parse ref10_Parse_T
  rw [c, d, beq_self_eq_true, beq_self_eq_true]
  simp (disch := omega) only [dec_f, dec_t, inb_t, cond_true, cond_false]
theorem pp2 (M : Nat) (F : Nat → Nat → PV) (h : 18 ≤ M) (h' : M ≤ 100000) (c : e22 F = 33024) (α : Type) (k0 : Nat → (Nat → Nat → PV) → Option α) (k1 : Int → Int → Int → Int → Int → Nat → (Nat → Nat → PV) → Nat → (Nat → Nat → PV) → Option α) (k2 : Int → Int → Int → Nat → (Nat → Nat → PV) → Nat → (Nat → Nat → PV) → Option α) : frame_Parse M F k0 k1 k2 = frame_Good (e18 F) (e21 F) true (shrI .i64 (e23 F) 13) (bits .and .i64 (e23 F) 8191) (e24 F) (M - 18) (fun j c => F (18 + j) c) (fun r n f => bif !r then k0 M F else k1 (e18 F) (e21 F) (shrI .i64 (e23 F) 13) (bits .and .i64 (e23 F) 8191) (e24 F) M F n f) := by
  unfold frame_Parse frame_Parse_T
  rw [c, beq_self_eq_true, show 0 + (M - 12 - 4 - 2) = M - 18 by omega, catf_zero _ (fun j c => F (18 + j) c), bnd (show M - 18 ≤ 200000 by omega)]
  simp (disch := omega) only [dec_f, dec_t, inb_t, cond_true, cond_false]
theorem rp2 (nl : Bool) (M : Nat) (F : Nat → Nat → PV) (h : 18 ≤ M) (h' : M ≤ 100000) (c : numOf (F 12 0) = 129) (d : numOf (F 13 0) = 0) (x0 x1 x2 x3 x4 : Int) (q0 : IntKind.u64.wrap ((shlI .u64 (e27 F) 8) + (IntKind.u64.wrap (numOf (F 5 0)))) = x0) (q1 : IntKind.u64.wrap ((shlI .u64 (e30 F) 8) + (IntKind.u64.wrap (numOf (F 11 0)))) = x1) (q2 : IntKind.i64.wrap ((e31 F).tdiv 8192) = x2) (q3 : (e31 F).tmod 8192 = x3) (q4 : e32 F = x4) (α : Type) (k0 : Option α) (k1 : Int → Int → Int → Int → Int → Nat → (Nat → Nat → PV) → Option α) (k2 : Int → Int → Int → Nat → (Nat → Nat → PV) → Option α) : ref10_Parse nl M F k0 k1 k2 = ref10_Good_v1 x0 x1 x2 x3 x4 (M - 18) (fun j c => F (18 + j) c) (fun r n f => bif !r then k0 else k1 x0 x1 x2 x3 x4 n f) := by
  unfold ref10_Parse ref10_Parse_T
  rw [q0, q1, q2, q3, q4, c, d, beq_self_eq_true, beq_self_eq_true, Nat.zero_add (M - 18), catf_zero _ (fun j c => F (18 + j) c), bnd (show M - 18 ≤ 200000 by omega)]
  simp (disch := omega) only [dec_f, dec_t, inb_t, cond_true, cond_false]
theorem pp3 (M : Nat) (F : Nat → Nat → PV) (h : 14 ≤ M) (h' : M ≤ 100000) (c : e22 F ≠ 33024) (α : Type) (k0 : Nat → (Nat → Nat → PV) → Option α) (k1 : Int → Int → Int → Int → Int → Nat → (Nat → Nat → PV) → Nat → (Nat → Nat → PV) → Option α) (k2 : Int → Int → Int → Nat → (Nat → Nat → PV) → Nat → (Nat → Nat → PV) → Option α) : frame_Parse M F k0 k1 k2 = frame_Good (e18 F) (e21 F) false 0 0 (e22 F) (M - 14) (fun j c => F (14 + j) c) (fun r n f => bif !r then k0 M F else k2 (e18 F) (e21 F) (e22 F) M F n f) := by
  unfold frame_Parse frame_Parse_T
  rw [beq_eq_false_iff_ne.2 c, show 0 + (M - 12 - 2) = M - 14 by omega, catf_zero _ (fun j c => F (14 + j) c), bnd (show M - 14 ≤ 200000 by omega)]
  simp (disch := omega) only [dec_f, dec_t, inb_t, cond_true, cond_false]
theorem rp3 (nl : Bool) (M : Nat) (F : Nat → Nat → PV) (h : 14 ≤ M) (h' : M ≤ 100000) (c : ¬ (numOf (F 12 0) = 129 ∧ numOf (F 13 0) = 0)) (x0 x1 x4 : Int) (q0 : IntKind.u64.wrap ((shlI .u64 (e27 F) 8) + (IntKind.u64.wrap (numOf (F 5 0)))) = x0) (q1 : IntKind.u64.wrap ((shlI .u64 (e30 F) 8) + (IntKind.u64.wrap (numOf (F 11 0)))) = x1) (q4 : e33 F = x4) (α : Type) (k0 : Option α) (k1 : Int → Int → Int → Int → Int → Nat → (Nat → Nat → PV) → Option α) (k2 : Int → Int → Int → Nat → (Nat → Nat → PV) → Option α) : ref10_Parse nl M F k0 k1 k2 = ref10_Good_v2 x0 x1 x4 (M - 14) (fun j c => F (14 + j) c) (fun n f => k0) (fun n f => k2 x0 x1 x4 n f) := by
  unfold ref10_Parse ref10_Parse_T
  rw [q0, q1, q4, Nat.zero_add (M - 14), catf_zero _ (fun j c => F (14 + j) c), bnd (show M - 14 ≤ 200000 by omega)]
  by_cases h12 : numOf (F 12 0) = 129
  · rw [h12, beq_self_eq_true, beq_eq_false_iff_ne.2 (fun h => c ⟨h12, h⟩)]
    simp (disch := omega) only [dec_f, dec_t, inb_t, cond_true, cond_false]
  · rw [beq_eq_false_iff_ne.2 h12]
    simp (disch := omega) only [dec_f, dec_t, inb_t, cond_true, cond_false]
theorem parse_cases (nl : Bool) (M : Nat) (F : Nat → Nat → PV) (hM : M ≤ 100000) (hb : ∀ j, j < M → 0 ≤ numOf (F j 0) ∧ numOf (F j 0) ≤ 255) :
    (∀ (α : Type) (k0 : Nat → (Nat → Nat → PV) → Option α) k1 k2 (k0' : Option α) k1' k2', frame_Parse M F k0 k1 k2 = k0 M F ∧ ref10_Parse nl M F k0' k1' k2' = k0') ∨
    (∃ x0 x1 x2 x3 x4 m y, ∀ (α : Type) (k0 : Nat → (Nat → Nat → PV) → Option α) k1 k2 (k0' : Option α) k1' k2', frame_Parse M F k0 k1 k2 = k1 x0 x1 x2 x3 x4 M F m y ∧ ref10_Parse nl M F k0' k1' k2' = k1' x0 x1 x2 x3 x4 m y) ∨
    (∃ x0 x1 x2 m y, ∀ (α : Type) (k0 : Nat → (Nat → Nat → PV) → Option α) k1 k2 (k0' : Option α) k1' k2', frame_Parse M F k0 k1 k2 = k2 x0 x1 x2 M F m y ∧ ref10_Parse nl M F k0' k1' k2' = k2' x0 x1 x2 m y) := by
  by_cases hn : M < 14
  · exact .inl fun _ _ _ _ _ _ _ => ⟨pp0 M F hn _ _ _ _, rp0 nl M F hn _ _ _ _⟩
  have hb' : ∀ j, j < 14 → 0 ≤ numOf (F j 0) ∧ numOf (F j 0) ≤ 255 := fun j hj => hb j (by omega)
  have g12 := hb 12 (by omega)
  have g13 := hb 13 (by omega)
  have d0 : 0 ≤ e18 F := by unfold e18; exact bits_lo_u64 _ _ _
  have s0 : 0 ≤ e21 F := by unfold e21; exact bits_lo_u64 _ _ _
  have k22 : e22 F = numOf (F 12 0) * 256 + numOf (F 13 0) := by unfold e22; exact two _ _ (by omega) (by omega) (by omega) (by omega)
  have k33 : e33 F = numOf (F 12 0) * 256 + numOf (F 13 0) := by unfold e33; exact two' _ _ (by omega) (by omega) (by omega) (by omega)
  by_cases ht : numOf (F 12 0) = 129 ∧ numOf (F 13 0) = 0
  · obtain ⟨t12, t13⟩ := ht
    have c22 : e22 F = 33024 := by omega
    by_cases h18 : M < 18
    · exact .inl fun _ _ _ _ _ _ _ => ⟨pp1 M F (by omega) h18 c22 _ _ _ _, rp1 nl M F (by omega) h18 t12 t13 _ _ _ _⟩
    have g14 := hb 14 (by omega)
    have g15 := hb 15 (by omega)
    have g16 := hb 16 (by omega)
    have g17 := hb 17 (by omega)
    have k23 : e23 F = numOf (F 14 0) * 256 + numOf (F 15 0) := by unfold e23; exact two _ _ (by omega) (by omega) (by omega) (by omega)
    have k31 : e31 F = numOf (F 14 0) * 256 + numOf (F 15 0) := by unfold e31; exact two' _ _ (by omega) (by omega) (by omega) (by omega)
    have k24 : e24 F = numOf (F 16 0) * 256 + numOf (F 17 0) := by unfold e24; exact two _ _ (by omega) (by omega) (by omega) (by omega)
    have k32 : e32 F = numOf (F 16 0) * 256 + numOf (F 17 0) := by unfold e32; exact two' _ _ (by omega) (by omega) (by omega) (by omega)
    have kp : IntKind.i64.wrap ((e31 F).tdiv 8192) = shrI .i64 (e23 F) 13 := by
      rw [k31, k23, shri13, Int.tdiv_eq_ediv_of_nonneg (by omega), i64_id (by omega) (by omega)]
    have kv : (e31 F).tmod 8192 = bits .and .i64 (e23 F) 8191 := by
      rw [k31, k23, and13 _ (by omega) (by omega), Int.tmod_eq_emod_of_nonneg (by omega)]
    obtain ⟨x, hx⟩ := good_ex (e18 F) (e21 F) true (shrI .i64 (e23 F) 13) (bits .and .i64 (e23 F) 8191) (e24 F) (M - 18) (fun j c => F (18 + j) c) d0 s0
    have A := fun α k0 k1 k2 => (pp2 M F (by omega) hM c22 α k0 k1 k2).trans (hx α _)
    have B := fun α k0 k1 k2 => ((rp2 nl M F (by omega) hM t12 t13 _ _ _ _ _ (dst_eq F hb') (src_eq F hb') kp kv (k32.trans k24.symm) α k0 k1 k2).trans (ref1_eq _ _ _ _ _ _ _ d0 s0 _)).trans (hx α _)
    cases x with
    | false => exact .inl fun α k0 k1 k2 k0' k1' k2' => ⟨A α k0 k1 k2, B α k0' k1' k2'⟩
    | true => exact .inr (.inl ⟨_, _, _, _, _, _, _, fun α k0 k1 k2 k0' k1' k2' => ⟨A α k0 k1 k2, B α k0' k1' k2'⟩⟩)
  · have c22 : e22 F ≠ 33024 := by omega
    obtain ⟨x, hx⟩ := good_ex (e18 F) (e21 F) false 0 0 (e22 F) (M - 14) (fun j c => F (14 + j) c) d0 s0
    have A := fun α k0 k1 k2 => (pp3 M F (by omega) hM c22 α k0 k1 k2).trans (hx α _)
    have B := fun α k0 k1 k2 => ((rp3 nl M F (by omega) hM ht _ _ _ (dst_eq F hb') (src_eq F hb') (k33.trans k22.symm) α k0 k1 k2).trans (ref2_eq _ _ _ _ _ d0 s0 _ _)).trans (hx α _)
    cases x with
    | false => exact .inl fun α k0 k1 k2 k0' k1' k2' => ⟨A α k0 k1 k2, B α k0' k1' k2'⟩
    | true => exact .inr (.inr ⟨_, _, _, _, _, fun α k0 k1 k2 k0' k1' k2' => ⟨A α k0 k1 k2, B α k0' k1' k2'⟩⟩)
theorem same3 {α : Type} (x0 x1 x2 x3 x4 : Int) (m : Nat) (y : Nat → Nat → PV) (k : Bool → Nat → (Nat → Nat → PV) → Nat → (Nat → Nat → PV) → Option α) : keep_Frames_v3 x0 x1 x2 x3 x4 x0 x1 x2 x3 x4 m y m y k = k true m y m y := by
  unfold keep_Frames_v3 keep_Frames_v3_T
  simp only [beq_self_eq_true, cond_true]
theorem same7 {α : Type} (x0 x1 x2 : Int) (m : Nat) (y : Nat → Nat → PV) (k : Bool → Nat → (Nat → Nat → PV) → Nat → (Nat → Nat → PV) → Option α) : keep_Frames_v7 x0 x1 x2 x0 x1 x2 m y m y k = k true m y m y := by
  unfold keep_Frames_v7 keep_Frames_v7_T
  simp only [beq_self_eq_true, cond_true]
theorem main {α : Type} (a_1 : Int) (a_2 : Int) (a_3 : Bool) (a_4 : Int) (a_5 : Int) (a_6 : Int) (a_7 : Bool) (a_8 : Nat) (a_9 : Nat → Nat → PV) (a_10 : Bool) (a_11 : Nat) (a_12 : Nat → Nat → PV) (h_1 : PvOk (.val (.int .u64 a_1))) (h_2 : PvOk (.val (.int .u64 a_2))) (h_4 : PvOk (.val (.int .i64 a_4))) (h_5 : PvOk (.val (.int .i64 a_5))) (h_6 : PvOk (.val (.int .i64 a_6))) (h_7 : PvOk (.sl a_7 (.int .u8 .nil) 1 a_8 a_9)) (k_7 : RowK (.int .u8 .nil) a_8 a_9) (h_10 : PvOk (.sl a_10 (.int .u8 .nil) 1 a_11 a_12)) (k_10 : RowK (.int .u8 .nil) a_11 a_12) (k0 k1 : Option α) : law10_FrameCodes a_1 a_2 a_3 a_4 a_5 a_6 a_7 a_8 a_9 a_10 a_11 a_12 k0 k1 = k0 := by
  have ha := (pv_u64 h_1).1
  have hb := (pv_u64 h_2).1
  unfold law10_FrameCodes law10_FrameCodes_T
  by_cases hn : (a_8 : Int) > 2000
  · rw [dec_t hn, cond_true]
  by_cases hm : (a_11 : Int) > 2000
  · rw [dec_f hn, dec_t hm, cond_true, cond_false]
  rw [dec_f hn, dec_f hm, cond_false, cond_false, Nat.zero_add, Nat.zero_add, catf_zero _ a_9, catf_zero _ a_12, bnd (show a_8 ≤ 200000 by omega), bnd (show a_11 ≤ 200000 by omega)]
  have hG : ∃ x : Bool, (∀ k : Bool → Option α, frame_Good_v1 a_1 a_2 a_3 a_4 a_5 a_6 a_7 a_8 a_9 k = k x) ∧ ∀ k : Bool → Option α, ref10_Good a_1 a_2 a_3 a_4 a_5 a_6 a_7 a_8 a_9 k = k x := by
    rcases good_cases a_1 a_2 a_3 a_4 a_5 a_6 a_7 a_8 a_9 ha hb with hg | ⟨_, hg⟩
    · exact ⟨false, hg α, fun k => by rw [ref_eq _ _ _ _ _ _ _ _ _ ha hb]; exact hg α k⟩
    · exact ⟨true, hg α, fun k => by rw [ref_eq _ _ _ _ _ _ _ _ _ ha hb]; exact hg α k⟩
  obtain ⟨x, hG1, hG2⟩ := hG
  simp only [cond_true, hG1, hG2, beq_self_eq_true]
  rcases enc_cases a_1 a_2 a_3 a_4 a_5 a_6 a_7 a_8 a_9 ha hb (by omega) with hE | ⟨N, g, g', hs, hE⟩ <;>
  rcases parse_cases a_10 a_11 a_12 (by omega) (byte_of h_10 k_10) with hP | ⟨x0, x1, x2, x3, x4, m, y, hP⟩ | ⟨x0, x1, x2, m, y, hP⟩
  all_goals
    have hE1 := fun k0 k1 => (hE α k0 k1 none (fun _ _ => none)).1
    have hE2 := fun k0' k1' => (hE α (fun _ _ => none) (fun _ _ _ _ => none) k0' k1').2
    have hP1 := fun k0 k1 k2 => (hP α k0 k1 k2 none (fun _ _ _ _ _ _ _ => none) (fun _ _ _ _ _ => none)).1
    have hP2 := fun k0' k1' k2' => (hP α (fun _ _ => none) (fun _ _ _ _ _ _ _ _ _ => none) (fun _ _ _ _ _ _ _ => none) k0' k1' k2').2
  · simp only [hE1, hE2, hP1, hP2]
  · simp only [hE1, hE2, hP1, hP2, same3, cond_true]
  · simp only [hE1, hE2, hP1, hP2, same7, cond_true]
  · simp only [hE1, hE2, hP1, hP2, hs, beq_self_eq_true, cond_true]
  · simp only [hE1, hE2, hP1, hP2, hs, beq_self_eq_true, same3, cond_true]
  · simp only [hE1, hE2, hP1, hP2, hs, beq_self_eq_true, same7, cond_true]
end Go.Proofs.Ytampnnhdgnhjaaa.FrameCodes

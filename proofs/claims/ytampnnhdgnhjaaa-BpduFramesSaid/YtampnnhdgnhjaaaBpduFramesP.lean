/- BpduFrames: what the code comes to answers true: plain numbers and rows, no program in sight. -/
import Derived.Test.YtampnnhdgnhjaaaBpduFramesU
import Derived.Test.YtampnnhdgnhjaaaVe25
import Derived.Laws.Strings
set_option linter.unusedVariables false
set_option linter.unusedSimpArgs false
namespace Go.Proofs.Ytampnnhdgnhjaaa.BpduFrames
open Go.Ve
theorem dec_congr {p q : Prop} [Decidable p] [Decidable q] (h : p ↔ q) : decide p = decide q := by
  by_cases hp : p
  · rw [dec_t hp, dec_t (h.1 hp)]
  · rw [dec_f hp, dec_f (fun hq => hp (h.2 hq))]
theorem group_eq {α : Type} (a : Int) (h : 0 ≤ a) (k : Bool → Option α) : ref09_Group a k = mac_Group a k := by
  unfold ref09_Group ref09_Group_T mac_Group mac_Group_T
  rw [shr48 h]
theorem good_eq {α : Type} (a b : Int) (t : Bool) (p v kd : Int) (nl : Bool) (n : Nat) (f : Nat → Nat → PV) (ha : 0 ≤ a) (hb : 0 ≤ b) (k : Bool → Option α) : ref10_Good a b t p v kd nl n f k = frame_Good a b t p v kd n f (fun x _ _ => k x) := by
  unfold ref10_Good ref10_Good_T frame_Good frame_Good_T frame_room frame_room_T
  simp only [group_eq _ hb, shr48 ha, shr48 hb]
  have e1 : decide (kd > 65535) = decide (kd ≥ 65536) := dec_congr (by omega)
  have e2 : decide (p ≤ 7) = decide (p < 8) := dec_congr (by omega)
  have e3 : decide (v ≤ 4095) = decide (v < 4096) := dec_congr (by omega)
  cases t <;> simp only [cond_true, cond_false, Bool.not_true, Bool.not_false, e1, e2, e3]
theorem bgood_eq {α : Type} (a b c d e f : Int) (g h i j l : Bool) (k : Bool → Option α) : ref11_Good a b c d e f g h i j l k = bpdu_Good a b c d e f g h i j l k := rfl
theorem rows_eq (x0 x1 x2 x3 x4 x5 x6 x7 x8 x9 x10 : Int) : strOf 39 (e47 x0 x1 x2 x3 x4 x5 x6 x7 x8 x9 x10) = strOf 39 (e61 x0 x1 x2 x3 x4 x5 x6 x7 x8 x9 x10) := by
  refine strOf_congr fun j hj => ?_
  have h7 : (e47 x0 x1 x2 x3 x4 x5 x6 x7 x8 x9 x10) 7 0 = (e61 x0 x1 x2 x3 x4 x5 x6 x7 x8 x9 x10) 7 0 := by
    have l : (e47 x0 x1 x2 x3 x4 x5 x6 x7 x8 x9 x10) 7 0 = .val (.int .u8 (IntKind.u8.wrap (e3 x0 x1 x2 x3 x4 x5))) := by kernel_rfl
    have r : (e61 x0 x1 x2 x3 x4 x5 x6 x7 x8 x9 x10) 7 0 = .val (.int .u8 (bits .or .u8 (bits .or .u8 (e2 x0 x1 x2 x3) x4) x5)) := by kernel_rfl
    rw [l, r]
    unfold e3
    have h0 := bits_lo_u8 .or (bits .or .u8 (e2 x0 x1 x2 x3) x4) x5
    have h1 := bits_hi_u8 .or (bits .or .u8 (e2 x0 x1 x2 x3) x4) x5
    rw [shr0, u64_id h0 (by omega), u8_id h0 (by omega)]
  have h0 : (e47 x0 x1 x2 x3 x4 x5 x6 x7 x8 x9 x10) 0 0 = (e61 x0 x1 x2 x3 x4 x5 x6 x7 x8 x9 x10) 0 0 := by kernel_rfl
  have h1 : (e47 x0 x1 x2 x3 x4 x5 x6 x7 x8 x9 x10) 1 0 = (e61 x0 x1 x2 x3 x4 x5 x6 x7 x8 x9 x10) 1 0 := by kernel_rfl
  have h2 : (e47 x0 x1 x2 x3 x4 x5 x6 x7 x8 x9 x10) 2 0 = (e61 x0 x1 x2 x3 x4 x5 x6 x7 x8 x9 x10) 2 0 := by kernel_rfl
  have h3 : (e47 x0 x1 x2 x3 x4 x5 x6 x7 x8 x9 x10) 3 0 = (e61 x0 x1 x2 x3 x4 x5 x6 x7 x8 x9 x10) 3 0 := by kernel_rfl
  have h4 : (e47 x0 x1 x2 x3 x4 x5 x6 x7 x8 x9 x10) 4 0 = (e61 x0 x1 x2 x3 x4 x5 x6 x7 x8 x9 x10) 4 0 := by kernel_rfl
  have h5 : (e47 x0 x1 x2 x3 x4 x5 x6 x7 x8 x9 x10) 5 0 = (e61 x0 x1 x2 x3 x4 x5 x6 x7 x8 x9 x10) 5 0 := by kernel_rfl
  have h6 : (e47 x0 x1 x2 x3 x4 x5 x6 x7 x8 x9 x10) 6 0 = (e61 x0 x1 x2 x3 x4 x5 x6 x7 x8 x9 x10) 6 0 := by kernel_rfl
  have h8 : (e47 x0 x1 x2 x3 x4 x5 x6 x7 x8 x9 x10) 8 0 = (e61 x0 x1 x2 x3 x4 x5 x6 x7 x8 x9 x10) 8 0 := by kernel_rfl
  have h9 : (e47 x0 x1 x2 x3 x4 x5 x6 x7 x8 x9 x10) 9 0 = (e61 x0 x1 x2 x3 x4 x5 x6 x7 x8 x9 x10) 9 0 := by kernel_rfl
  have h10 : (e47 x0 x1 x2 x3 x4 x5 x6 x7 x8 x9 x10) 10 0 = (e61 x0 x1 x2 x3 x4 x5 x6 x7 x8 x9 x10) 10 0 := by kernel_rfl
  have h11 : (e47 x0 x1 x2 x3 x4 x5 x6 x7 x8 x9 x10) 11 0 = (e61 x0 x1 x2 x3 x4 x5 x6 x7 x8 x9 x10) 11 0 := by kernel_rfl
  have h12 : (e47 x0 x1 x2 x3 x4 x5 x6 x7 x8 x9 x10) 12 0 = (e61 x0 x1 x2 x3 x4 x5 x6 x7 x8 x9 x10) 12 0 := by kernel_rfl
  have h13 : (e47 x0 x1 x2 x3 x4 x5 x6 x7 x8 x9 x10) 13 0 = (e61 x0 x1 x2 x3 x4 x5 x6 x7 x8 x9 x10) 13 0 := by kernel_rfl
  have h14 : (e47 x0 x1 x2 x3 x4 x5 x6 x7 x8 x9 x10) 14 0 = (e61 x0 x1 x2 x3 x4 x5 x6 x7 x8 x9 x10) 14 0 := by kernel_rfl
  have h15 : (e47 x0 x1 x2 x3 x4 x5 x6 x7 x8 x9 x10) 15 0 = (e61 x0 x1 x2 x3 x4 x5 x6 x7 x8 x9 x10) 15 0 := by kernel_rfl
  have h16 : (e47 x0 x1 x2 x3 x4 x5 x6 x7 x8 x9 x10) 16 0 = (e61 x0 x1 x2 x3 x4 x5 x6 x7 x8 x9 x10) 16 0 := by kernel_rfl
  have h17 : (e47 x0 x1 x2 x3 x4 x5 x6 x7 x8 x9 x10) 17 0 = (e61 x0 x1 x2 x3 x4 x5 x6 x7 x8 x9 x10) 17 0 := by kernel_rfl
  have h18 : (e47 x0 x1 x2 x3 x4 x5 x6 x7 x8 x9 x10) 18 0 = (e61 x0 x1 x2 x3 x4 x5 x6 x7 x8 x9 x10) 18 0 := by kernel_rfl
  have h19 : (e47 x0 x1 x2 x3 x4 x5 x6 x7 x8 x9 x10) 19 0 = (e61 x0 x1 x2 x3 x4 x5 x6 x7 x8 x9 x10) 19 0 := by kernel_rfl
  have h20 : (e47 x0 x1 x2 x3 x4 x5 x6 x7 x8 x9 x10) 20 0 = (e61 x0 x1 x2 x3 x4 x5 x6 x7 x8 x9 x10) 20 0 := by kernel_rfl
  have h21 : (e47 x0 x1 x2 x3 x4 x5 x6 x7 x8 x9 x10) 21 0 = (e61 x0 x1 x2 x3 x4 x5 x6 x7 x8 x9 x10) 21 0 := by kernel_rfl
  have h22 : (e47 x0 x1 x2 x3 x4 x5 x6 x7 x8 x9 x10) 22 0 = (e61 x0 x1 x2 x3 x4 x5 x6 x7 x8 x9 x10) 22 0 := by kernel_rfl
  have h23 : (e47 x0 x1 x2 x3 x4 x5 x6 x7 x8 x9 x10) 23 0 = (e61 x0 x1 x2 x3 x4 x5 x6 x7 x8 x9 x10) 23 0 := by kernel_rfl
  have h24 : (e47 x0 x1 x2 x3 x4 x5 x6 x7 x8 x9 x10) 24 0 = (e61 x0 x1 x2 x3 x4 x5 x6 x7 x8 x9 x10) 24 0 := by kernel_rfl
  have h25 : (e47 x0 x1 x2 x3 x4 x5 x6 x7 x8 x9 x10) 25 0 = (e61 x0 x1 x2 x3 x4 x5 x6 x7 x8 x9 x10) 25 0 := by kernel_rfl
  have h26 : (e47 x0 x1 x2 x3 x4 x5 x6 x7 x8 x9 x10) 26 0 = (e61 x0 x1 x2 x3 x4 x5 x6 x7 x8 x9 x10) 26 0 := by kernel_rfl
  have h27 : (e47 x0 x1 x2 x3 x4 x5 x6 x7 x8 x9 x10) 27 0 = (e61 x0 x1 x2 x3 x4 x5 x6 x7 x8 x9 x10) 27 0 := by kernel_rfl
  have h28 : (e47 x0 x1 x2 x3 x4 x5 x6 x7 x8 x9 x10) 28 0 = (e61 x0 x1 x2 x3 x4 x5 x6 x7 x8 x9 x10) 28 0 := by kernel_rfl
  have h29 : (e47 x0 x1 x2 x3 x4 x5 x6 x7 x8 x9 x10) 29 0 = (e61 x0 x1 x2 x3 x4 x5 x6 x7 x8 x9 x10) 29 0 := by kernel_rfl
  have h30 : (e47 x0 x1 x2 x3 x4 x5 x6 x7 x8 x9 x10) 30 0 = (e61 x0 x1 x2 x3 x4 x5 x6 x7 x8 x9 x10) 30 0 := by kernel_rfl
  have h31 : (e47 x0 x1 x2 x3 x4 x5 x6 x7 x8 x9 x10) 31 0 = (e61 x0 x1 x2 x3 x4 x5 x6 x7 x8 x9 x10) 31 0 := by kernel_rfl
  have h32 : (e47 x0 x1 x2 x3 x4 x5 x6 x7 x8 x9 x10) 32 0 = (e61 x0 x1 x2 x3 x4 x5 x6 x7 x8 x9 x10) 32 0 := by kernel_rfl
  have h33 : (e47 x0 x1 x2 x3 x4 x5 x6 x7 x8 x9 x10) 33 0 = (e61 x0 x1 x2 x3 x4 x5 x6 x7 x8 x9 x10) 33 0 := by kernel_rfl
  have h34 : (e47 x0 x1 x2 x3 x4 x5 x6 x7 x8 x9 x10) 34 0 = (e61 x0 x1 x2 x3 x4 x5 x6 x7 x8 x9 x10) 34 0 := by kernel_rfl
  have h35 : (e47 x0 x1 x2 x3 x4 x5 x6 x7 x8 x9 x10) 35 0 = (e61 x0 x1 x2 x3 x4 x5 x6 x7 x8 x9 x10) 35 0 := by kernel_rfl
  have h36 : (e47 x0 x1 x2 x3 x4 x5 x6 x7 x8 x9 x10) 36 0 = (e61 x0 x1 x2 x3 x4 x5 x6 x7 x8 x9 x10) 36 0 := by kernel_rfl
  have h37 : (e47 x0 x1 x2 x3 x4 x5 x6 x7 x8 x9 x10) 37 0 = (e61 x0 x1 x2 x3 x4 x5 x6 x7 x8 x9 x10) 37 0 := by kernel_rfl
  have h38 : (e47 x0 x1 x2 x3 x4 x5 x6 x7 x8 x9 x10) 38 0 = (e61 x0 x1 x2 x3 x4 x5 x6 x7 x8 x9 x10) 38 0 := by kernel_rfl
  match j, hj with
  | 0, _ => exact h0
  | 1, _ => exact h1
  | 2, _ => exact h2
  | 3, _ => exact h3
  | 4, _ => exact h4
  | 5, _ => exact h5
  | 6, _ => exact h6
  | 7, _ => exact h7
  | 8, _ => exact h8
  | 9, _ => exact h9
  | 10, _ => exact h10
  | 11, _ => exact h11
  | 12, _ => exact h12
  | 13, _ => exact h13
  | 14, _ => exact h14
  | 15, _ => exact h15
  | 16, _ => exact h16
  | 17, _ => exact h17
  | 18, _ => exact h18
  | 19, _ => exact h19
  | 20, _ => exact h20
  | 21, _ => exact h21
  | 22, _ => exact h22
  | 23, _ => exact h23
  | 24, _ => exact h24
  | 25, _ => exact h25
  | 26, _ => exact h26
  | 27, _ => exact h27
  | 28, _ => exact h28
  | 29, _ => exact h29
  | 30, _ => exact h30
  | 31, _ => exact h31
  | 32, _ => exact h32
  | 33, _ => exact h33
  | 34, _ => exact h34
  | 35, _ => exact h35
  | 36, _ => exact h36
  | 37, _ => exact h37
  | 38, _ => exact h38
  | j + 39, hj => omega
theorem bgood_ex (a b c d e f : Int) (g h i j l : Bool) : ∃ x : Bool, ∀ (α : Type) (k : Bool → Option α), bpdu_Good a b c d e f g h i j l k = k x := by
  unfold bpdu_Good bpdu_Good_T
  generalize decide (e ≥ 0) = c1
  generalize decide (e ≤ 65535) = c2
  generalize decide (d ≥ 0) = c3
  generalize decide (d ≤ 65535) = c4
  generalize decide (f ≥ 1) = c5
  cases c1 <;> cases c2 <;> cases c3 <;> cases c4 <;> cases c5 <;> exact ⟨_, fun _ _ => rfl⟩
theorem group_ex (a : Int) : ∃ x : Bool, ∀ (α : Type) (k : Bool → Option α), mac_Group a k = k x := by
  unfold mac_Group mac_Group_T
  generalize (shrI .u64 a 48 == 0) = c1
  cases c1 <;> exact ⟨_, fun _ _ => rfl⟩
theorem good_ex (a b : Int) (t : Bool) (p v kd : Int) (n : Nat) (f : Nat → Nat → PV) : ∃ x : Bool, ∀ (α : Type) (k : Bool → Nat → (Nat → Nat → PV) → Option α), frame_Good a b t p v kd n f k = k x n f := by
  obtain ⟨g, hg⟩ := group_ex b
  unfold frame_Good frame_Good_T frame_room frame_room_T
  simp only [hg]
  generalize (shrI .u64 a 48 == 0) = c1
  generalize (shrI .u64 b 48 == 0) = c2
  generalize decide (kd < 0) = c3
  generalize decide (kd ≥ 65536) = c4
  generalize (kd == 33024) = c5
  cases c1
  · exact ⟨_, fun _ _ => rfl⟩
  cases c2
  · exact ⟨_, fun _ _ => rfl⟩
  cases g with
  | true => exact ⟨_, fun _ _ => rfl⟩
  | false =>
  cases c3 with
  | true => exact ⟨_, fun _ _ => rfl⟩
  | false =>
  cases c4 with
  | true => exact ⟨_, fun _ _ => rfl⟩
  | false =>
  cases c5 with
  | true => exact ⟨_, fun _ _ => rfl⟩
  | false =>
  cases t
  · simp only [cond_true, cond_false, Bool.not_true, Bool.not_false]
    generalize decide ((n : Int) > 1504) = c6
    generalize (p == 0) = c7
    cases c6 <;> cases c7 <;> exact ⟨_, fun _ _ => rfl⟩
  · simp only [cond_true, cond_false, Bool.not_true, Bool.not_false]
    generalize decide ((n : Int) > 1500) = c6
    generalize decide (p ≥ 0) = c7
    generalize decide (p < 8) = c8
    generalize decide (v ≥ 0) = c9
    cases c6 <;> cases c7 <;> cases c8 <;> cases c9 <;> exact ⟨_, fun _ _ => rfl⟩
theorem flag_ex (b : Bool) : ∃ x : Int, ∀ (α : Type) (k : Int → Option α), bpdu_flag b k = k x := by cases b <;> exact ⟨_, fun _ _ => rfl⟩
theorem flag1_ex (b : Bool) : ∃ x : Int, ∀ (α : Type) (k : Int → Option α), bpdu_flag_v1 b k = k x := by cases b <;> exact ⟨_, fun _ _ => rfl⟩
theorem flag2_ex (b : Bool) : ∃ x : Int, ∀ (α : Type) (k : Int → Option α), bpdu_flag_v2 b k = k x := by cases b <;> exact ⟨_, fun _ _ => rfl⟩
theorem flag3_ex (b : Bool) : ∃ x : Int, ∀ (α : Type) (k : Int → Option α), bpdu_flag_v3 b k = k x := by cases b <;> exact ⟨_, fun _ _ => rfl⟩
theorem flag4_ex (b : Bool) : ∃ x : Int, ∀ (α : Type) (k : Int → Option α), bpdu_flag_v4 b k = k x := by cases b <;> exact ⟨_, fun _ _ => rfl⟩
theorem frame_cases (s a b c d e f : Int) (g h i j l : Bool) (hs : 0 ≤ s) :
    (∀ (α : Type) (k0 : Option α) (k1 : Int → (Nat → Nat → PV) → Option α), bpdu_Frame s a b c d e f g h i j l k0 k1 = k0 ∧ ref11_Frame s a b c d e f g h i j l k0 k1 = k0) ∨
    ∃ x0 x1 x2 x3 x4 x5, ∀ (α : Type) (k0 : Option α) (k1 : Int → (Nat → Nat → PV) → Option α), bpdu_Frame s a b c d e f g h i j l k0 k1 = k1 s (e47 x0 x1 x2 x3 x4 x5 a b c d e) ∧ ref11_Frame s a b c d e f g h i j l k0 k1 = k1 s (e61 x0 x1 x2 x3 x4 x5 a b c d e) := by
  have f0 : ∀ (α : Type) (x : Bool) (k : Int → Option α), ref11_bit x k = bpdu_flag x k := fun _ _ _ => rfl
  have f1 : ∀ (α : Type) (x : Bool) (k : Int → Option α), ref11_bit_v1 x k = bpdu_flag_v1 x k := fun _ _ _ => rfl
  have f2 : ∀ (α : Type) (x : Bool) (k : Int → Option α), ref11_bit_v2 x k = bpdu_flag_v2 x k := fun _ _ _ => rfl
  have f3 : ∀ (α : Type) (x : Bool) (k : Int → Option α), ref11_bit_v3 x k = bpdu_flag_v3 x k := fun _ _ _ => rfl
  have f4 : ∀ (α : Type) (x : Bool) (k : Int → Option α), ref11_bit_v4 x k = bpdu_flag_v4 x k := fun _ _ _ => rfl
  obtain ⟨x, hx⟩ := bgood_ex a b c d e f g h i j l
  obtain ⟨gr, hgr⟩ := group_ex s
  obtain ⟨x0, h0⟩ := flag_ex l
  obtain ⟨x1, h1⟩ := flag1_ex g
  obtain ⟨x3, h3⟩ := flag2_ex i
  obtain ⟨x4, h4⟩ := flag3_ex j
  obtain ⟨x5, h5⟩ := flag4_ex h
  unfold ref11_Frame ref11_Frame_T bpdu_Frame bpdu_Frame_T
  simp only [bgood_eq, group_eq _ hs, shr48 hs, hx, hgr, f0, f1, f2, f3, f4, h0, h1, h3, h4, h5]
  generalize decide (s < 281474976710656) = c1
  cases x
  · exact .inl fun _ _ _ => ⟨rfl, rfl⟩
  cases c1
  · exact .inl fun _ _ _ => ⟨rfl, rfl⟩
  cases gr
  · exact .inr ⟨x0, x1, f, x3, x4, x5, fun _ _ _ => ⟨rfl, rfl⟩⟩
  · exact .inl fun _ _ _ => ⟨rfl, rfl⟩
theorem ub (b : Int) (c : Nat) (h : 0 ≤ b ∧ b ≤ 255) (hc : c < 256) : (UInt8.ofNat b.toNat == UInt8.ofNat c) = (b == (c : Int)) := by
  by_cases hb : b = (c : Int)
  · subst hb; simp
  · have : UInt8.ofNat b.toNat ≠ UInt8.ofNat c := by
      intro e
      have e2 := congrArg UInt8.toNat e
      simp only [UInt8.toNat_ofNat'] at e2
      rw [Nat.mod_eq_of_lt (by omega), Nat.mod_eq_of_lt (by omega)] at e2
      omega
    rw [beq_eq_false_iff_ne.2 this, beq_eq_false_iff_ne.2 hb]
theorem wire7 (f : Nat → Nat → PV) (n : Nat) (hn : 39 ≤ n) (hb : ∀ j, j < n → 0 ≤ numOf (f j 0) ∧ numOf (f j 0) ≤ 255) (hk : RowK (.int .u8 .nil) n f) :
    e90 f = !((numOf (f 0 0) == 66) && ((numOf (f 1 0) == 66) && ((numOf (f 2 0) == 3) && ((numOf (f 3 0) == 0) && ((numOf (f 4 0) == 0) && ((numOf (f 5 0) == 2) && ((numOf (f 6 0) == 2) && true))))))) := by
  have hu : ∀ j, j < n → ubyte (f j 0) = UInt8.ofNat (numOf (f j 0)).toNat := by
    intro j hj
    obtain ⟨m, hm⟩ := hk j hj 0
    rw [hm]
    rfl
  unfold e90
  congr 1
  rw [ByteArray.toList_eq, ByteArray.toList_eq]
  have l : (strOf 7 (fun j c => (f) (0 + j) c)).data.toList = [ubyte (f 0 0), ubyte (f 1 0), ubyte (f 2 0), ubyte (f 3 0), ubyte (f 4 0), ubyte (f 5 0), ubyte (f 6 0)] := rfl
  rw [l, hu 0 (by omega), hu 1 (by omega), hu 2 (by omega), hu 3 (by omega), hu 4 (by omega), hu 5 (by omega), hu 6 (by omega)]
  have r : (⟨#[66, 66, 3, 0, 0, 2, 2]⟩ : ByteArray).data.toList = [UInt8.ofNat 66, UInt8.ofNat 66, UInt8.ofNat 3, UInt8.ofNat 0, UInt8.ofNat 0, UInt8.ofNat 2, UInt8.ofNat 2] := rfl
  rw [r]
  show (UInt8.ofNat _ == _ && (UInt8.ofNat _ == _ && (UInt8.ofNat _ == _ && (UInt8.ofNat _ == _ && (UInt8.ofNat _ == _ && (UInt8.ofNat _ == _ && (UInt8.ofNat _ == _ && true))))))) = _
  rw [ub _ _ (hb 0 (by omega)) (by decide), ub _ _ (hb 1 (by omega)) (by decide), ub _ _ (hb 2 (by omega)) (by decide), ub _ _ (hb 3 (by omega)) (by decide), ub _ _ (hb 4 (by omega)) (by decide), ub _ _ (hb 5 (by omega)) (by decide), ub _ _ (hb 6 (by omega)) (by decide)]
  rfl
theorem low8 {p : PV} (h : 0 ≤ numOf p ∧ numOf p ≤ 255) : IntKind.u8.wrap (bits .or .u64 0 (IntKind.u64.wrap (numOf p))) = numOf p := by
  rw [orw0 h, u64_id h.1 (by omega), u64_id (by omega) (by omega), u8_id (by omega) (by omega)]
  omega
theorem tail (n : Nat) (f : Nat → Nat → PV) (x0 x1 x2 x3 x4 x5 : Int) (y0 y1 y2 y3 y4 : Bool) :
    (∀ (α : Type) (k0 : Option α) (k1 : Int → Int → Int → Int → Int → Int → Bool → Bool → Bool → Bool → Bool → Option α) (k0' : Nat → (Nat → Nat → PV) → Option α) (k1' : Int → Int → Int → Int → Int → Int → Bool → Bool → Bool → Bool → Bool → Nat → (Nat → Nat → PV) → Option α),
      bpdu_Good x0 x1 x2 x3 x4 x5 y0 y1 y2 y3 y4 (fun r => bif !r then k0' n f else k1' x0 x1 x2 x3 x4 x5 y0 y1 y2 y3 y4 n f) = k0' n f ∧ bpdu_Good x0 x1 x2 x3 x4 x5 y0 y1 y2 y3 y4 (fun r => bif !r then k0 else k1 x0 x1 x2 x3 x4 x5 y0 y1 y2 y3 y4) = k0) ∨
    ∃ z0 z1 z2 z3 z4 z5 w0 w1 w2 w3 w4, ∀ (α : Type) (k0 : Option α) (k1 : Int → Int → Int → Int → Int → Int → Bool → Bool → Bool → Bool → Bool → Option α) (k0' : Nat → (Nat → Nat → PV) → Option α) (k1' : Int → Int → Int → Int → Int → Int → Bool → Bool → Bool → Bool → Bool → Nat → (Nat → Nat → PV) → Option α),
      bpdu_Good x0 x1 x2 x3 x4 x5 y0 y1 y2 y3 y4 (fun r => bif !r then k0' n f else k1' x0 x1 x2 x3 x4 x5 y0 y1 y2 y3 y4 n f) = k1' z0 z1 z2 z3 z4 z5 w0 w1 w2 w3 w4 n f ∧ bpdu_Good x0 x1 x2 x3 x4 x5 y0 y1 y2 y3 y4 (fun r => bif !r then k0 else k1 x0 x1 x2 x3 x4 x5 y0 y1 y2 y3 y4) = k1 z0 z1 z2 z3 z4 z5 w0 w1 w2 w3 w4 := by
  obtain ⟨z, hz⟩ := bgood_ex x0 x1 x2 x3 x4 x5 y0 y1 y2 y3 y4
  cases z with
  | false => exact .inl fun _ _ _ _ _ => by simp only [hz]; exact ⟨rfl, rfl⟩
  | true => exact .inr ⟨x0, x1, x2, x3, x4, x5, y0, y1, y2, y3, y4, fun _ _ _ _ _ => by simp only [hz]; exact ⟨rfl, rfl⟩⟩
theorem parse_cases (d s : Int) (t : Bool) (p v kd : Int) (nl : Bool) (n : Nat) (f : Nat → Nat → PV) (hd : 0 ≤ d) (hs : 0 ≤ s) (hb : ∀ j, j < n → 0 ≤ numOf (f j 0) ∧ numOf (f j 0) ≤ 255) (hk : RowK (.int .u8 .nil) n f) :
    (∀ (α : Type) (k0 : Option α) k1 (k0' : Nat → (Nat → Nat → PV) → Option α) k1', bpdu_Parse d s t p v kd n f k0' k1' = k0' n f ∧ ref11_Parse d s t p v kd nl n f k0 k1 = k0) ∨
    ∃ x0 x1 x2 x3 x4 x5 y0 y1 y2 y3 y4, ∀ (α : Type) (k0 : Option α) k1 (k0' : Nat → (Nat → Nat → PV) → Option α) k1', bpdu_Parse d s t p v kd n f k0' k1' = k1' x0 x1 x2 x3 x4 x5 y0 y1 y2 y3 y4 n f ∧ ref11_Parse d s t p v kd nl n f k0 k1 = k1 x0 x1 x2 x3 x4 x5 y0 y1 y2 y3 y4 := by
  obtain ⟨x, hx⟩ := good_ex d s t p v kd n f
  unfold ref11_Parse ref11_Parse_T bpdu_Parse bpdu_Parse_T
  simp only [good_eq _ _ _ _ _ _ _ _ _ hd hs, hx, bgood_eq, bne]
  generalize (d == 1652522221568) = c0
  cases c0 with
  | false => cases x <;> exact .inl fun _ _ _ _ _ => ⟨rfl, rfl⟩
  | true =>
  cases x with
  | false => exact .inl fun _ _ _ _ _ => ⟨rfl, rfl⟩
  | true =>
  cases t with
  | true => exact .inl fun _ _ _ _ _ => ⟨rfl, rfl⟩
  | false =>
  simp only [cond_true, cond_false, Bool.not_true, Bool.not_false]
  generalize (kd == 39) = c1
  cases c1 with
  | false => exact .inl fun _ _ _ _ _ => ⟨rfl, rfl⟩
  | true =>
  by_cases hn : (n : Int) < 39
  · rw [dec_t hn]
    exact .inl fun _ _ _ _ _ => ⟨rfl, rfl⟩
  have hn' : 39 ≤ n := by omega
  rw [wire7 f n hn' hb hk]
  simp (disch := omega) only [dec_f hn, inb_t, dec_t, cond_true, cond_false, Bool.not_true]
  unfold slices_Equal_byte_byte slices_Equal_byte_byte_T
  have q0 : numOf (e1 0 0) = 66 := rfl
  have q1 : numOf (e1 1 0) = 66 := rfl
  have q2 : numOf (e1 2 0) = 3 := rfl
  have q3 : numOf (e1 3 0) = 0 := rfl
  have q4 : numOf (e1 4 0) = 0 := rfl
  have q5 : numOf (e1 5 0) = 2 := rfl
  have q6 : numOf (e1 6 0) = 2 := rfl
  simp only [q0, q1, q2, q3, q4, q5, q6, bne]
  generalize (numOf (f 0 0) == 66) = b0
  generalize (numOf (f 1 0) == 66) = b1
  generalize (numOf (f 2 0) == 3) = b2
  generalize (numOf (f 3 0) == 0) = b3
  generalize (numOf (f 4 0) == 0) = b4
  generalize (numOf (f 5 0) == 2) = b5
  generalize (numOf (f 6 0) == 2) = b6
  cases b0 with
  | false => exact .inl fun _ _ _ _ _ => ⟨rfl, rfl⟩
  | true =>
  cases b1 with
  | false => exact .inl fun _ _ _ _ _ => ⟨rfl, rfl⟩
  | true =>
  cases b2 with
  | false => exact .inl fun _ _ _ _ _ => ⟨rfl, rfl⟩
  | true =>
  cases b3 with
  | false => exact .inl fun _ _ _ _ _ => ⟨rfl, rfl⟩
  | true =>
  cases b4 with
  | false => exact .inl fun _ _ _ _ _ => ⟨rfl, rfl⟩
  | true =>
  cases b5 with
  | false => exact .inl fun _ _ _ _ _ => ⟨rfl, rfl⟩
  | true =>
  cases b6 with
  | false => exact .inl fun _ _ _ _ _ => ⟨rfl, rfl⟩
  | true =>
  simp only [cond_true, cond_false, Bool.not_true, Bool.not_false, Bool.and_true]
  simp (disch := omega) only [inb_t, dec_t, cond_true, cond_false]
  have g7 := hb 7 (by omega)
  have g8 := hb 8 (by omega)
  have g9 := hb 9 (by omega)
  have g10 := hb 10 (by omega)
  have g11 := hb 11 (by omega)
  have g12 := hb 12 (by omega)
  have g13 := hb 13 (by omega)
  have g14 := hb 14 (by omega)
  have g15 := hb 15 (by omega)
  have g16 := hb 16 (by omega)
  have g17 := hb 17 (by omega)
  have g18 := hb 18 (by omega)
  have g19 := hb 19 (by omega)
  have g20 := hb 20 (by omega)
  have g21 := hb 21 (by omega)
  have g22 := hb 22 (by omega)
  have g23 := hb 23 (by omega)
  have g24 := hb 24 (by omega)
  have g25 := hb 25 (by omega)
  have g26 := hb 26 (by omega)
  have g27 := hb 27 (by omega)
  have g28 := hb 28 (by omega)
  have g29 := hb 29 (by omega)
  have g30 := hb 30 (by omega)
  have g31 := hb 31 (by omega)
  simp only [e62, e63, e64, e65, e66, e67, e68, e69, e70, e71, e72, e73, e74, e75, e76, e77, e78, e79, e80, e81, e82, e83, e84, e85, e86, e87, e88, e89, e91, e92, e93, e94, e95, e96, e97, e98, e99, e100, e101, e102, e103, e104, e105, e106, e107, e108, e109, low8 g7, bne, orw _ g8, orw _ g9, orw _ g10, orw _ g11, orw _ g12, orw _ g13, orw _ g14, orw _ g15, orw _ g16, orw _ g17, orw _ g18, orw _ g19, orw _ g20, orw _ g21, orw _ g22, orw _ g23, orw _ g24, orw _ g25, orw _ g26, orw _ g27, orw _ g28, orw _ g29, orw _ g30, orw _ g31, orw0 g8, orw0 g16, orw0 g20, orw0 g28, orw0 g30]
  generalize (bits .and .u8 (numOf (f 7 0)) 128 == 0) = c2
  cases c2 with
  | false => exact .inl fun _ _ _ _ _ => ⟨rfl, rfl⟩
  | true =>
  simp only [cond_true, cond_false, Bool.not_true, Bool.not_false]
  exact tail n f _ _ _ _ _ _ _ _ _ _ _
theorem main {α : Type} (a_1 : Int) (a_2 : Int) (a_3 : Int) (a_4 : Int) (a_5 : Int) (a_6 : Int) (a_7 : Int) (a_8 : Bool) (a_9 : Bool) (a_10 : Bool) (a_11 : Bool) (a_12 : Bool) (a_13 : Int) (a_14 : Int) (a_15 : Bool) (a_16 : Int) (a_17 : Int) (a_18 : Int) (a_19 : Bool) (a_20 : Nat) (a_21 : Nat → Nat → PV) (h_1 : PvOk (.val (.int .u64 a_1))) (h_2 : PvOk (.val (.int .u64 a_2))) (h_3 : PvOk (.val (.int .u32 a_3))) (h_4 : PvOk (.val (.int .u64 a_4))) (h_5 : PvOk (.val (.int .i64 a_5))) (h_6 : PvOk (.val (.int .i64 a_6))) (h_7 : PvOk (.val (.int .i64 a_7))) (h_13 : PvOk (.val (.int .u64 a_13))) (h_14 : PvOk (.val (.int .u64 a_14))) (h_16 : PvOk (.val (.int .i64 a_16))) (h_17 : PvOk (.val (.int .i64 a_17))) (h_18 : PvOk (.val (.int .i64 a_18))) (h_19 : PvOk (.sl a_19 (.int .u8 .nil) 1 a_20 a_21)) (k_19 : RowK (.int .u8 .nil) a_20 a_21) (k0 k1 : Option α) : law11_BpduFrames a_1 a_2 a_3 a_4 a_5 a_6 a_7 a_8 a_9 a_10 a_11 a_12 a_13 a_14 a_15 a_16 a_17 a_18 a_19 a_20 a_21 k0 k1 = k0 := by
  unfold law11_BpduFrames law11_BpduFrames_T
  by_cases h : (a_20 : Int) > 2000
  · rw [dec_t h, cond_true]
  have hbd : Nat.ble (a_20 * 1) bound = true := ble_true (by unfold bound; omega)
  obtain ⟨g, hg⟩ := bgood_ex a_2 a_3 a_4 a_5 a_6 a_7 a_8 a_9 a_10 a_11 a_12
  rcases frame_cases a_1 a_2 a_3 a_4 a_5 a_6 a_7 a_8 a_9 a_10 a_11 a_12 (pv_u64 h_1).1 with hF | ⟨x0, x1, x2, x3, x4, x5, hF⟩ <;>
  rcases parse_cases a_13 a_14 a_15 a_16 a_17 a_18 a_19 a_20 a_21 (pv_u64 h_13).1 (pv_u64 h_14).1 (byte_of h_19 k_19) k_19 with hP | ⟨z0, z1, z2, z3, z4, z5, w0, w1, w2, w3, w4, hP⟩
  all_goals
    have hF1 := fun k0 k1 => (hF α k0 k1).1
    have hF2 := fun k0 k1 => (hF α k0 k1).2
    have hP1 := fun k0' k1' => (hP α none (fun _ _ _ _ _ _ _ _ _ _ _ => none) k0' k1').1
    have hP2 := fun k0 k1 => (hP α k0 k1 (fun _ _ => none) (fun _ _ _ _ _ _ _ _ _ _ _ _ _ => none)).2
    simp only [dec_f h, Nat.zero_add, catf_zero, hbd, hF1, hF2, hP1, hP2, bgood_eq, hg, cond_true, cond_false, beq_self_eq_true, keep_Frames, keep_Frames_T, rows_eq, e110, e111, e112, e113, e114, Bool.and_self, Bool.and_true]
end Go.Proofs.Ytampnnhdgnhjaaa.BpduFrames

/- MacTells: what the code comes to answers true: plain numbers and texts, no program in sight. -/
import Derived.Test.YtampnnhdgnhjaaaDoorMacTellsU
import Derived.Test.YtampnnhdgnhjaaaDoorVe32
set_option linter.unusedVariables false
set_option linter.unusedSimpArgs false
namespace Go.Proofs.YtampnnhdgnhjaaaDoor.MacTells
open Go.Ve
def H (n : Nat) : UInt8 := ([48, 49, 50, 51, 52, 53, 54, 55, 56, 57, 97, 98, 99, 100, 101, 102] : List UInt8).getD n 0
def pa (B : Int) : ByteArray := (⟨#[48, 49, 50, 51, 52, 53, 54, 55, 56, 57, 97, 98, 99, 100, 101, 102]⟩ : ByteArray).extract ((shrI .u8 B 4).toNat) (((shrI .u8 B 4).toNat) + (((IntKind.u8.wrap ((shrI .u8 B 4) + 1)).toNat) - ((shrI .u8 B 4).toNat)))
def pb (B : Int) : ByteArray := (⟨#[48, 49, 50, 51, 52, 53, 54, 55, 56, 57, 97, 98, 99, 100, 101, 102]⟩ : ByteArray).extract ((bits .and .u8 B 15).toNat) (((bits .and .u8 B 15).toNat) + (((IntKind.u8.wrap ((bits .and .u8 B 15) + 1)).toNat) - ((bits .and .u8 B 15).toNat)))
def tst (n : Nat) : Bool := inb (IntKind.u8.wrap ((shrI .u8 (n : Int) 4) + 1)) 17 && ((decide (0 ≤ shrI .u8 (n : Int) 4) && decide (shrI .u8 (n : Int) 4 ≤ IntKind.u8.wrap ((shrI .u8 (n : Int) 4) + 1))) && (inb (IntKind.u8.wrap ((bits .and .u8 (n : Int) 15) + 1)) 17 && ((decide (0 ≤ bits .and .u8 (n : Int) 15) && decide (bits .and .u8 (n : Int) 15 ≤ IntKind.u8.wrap ((bits .and .u8 (n : Int) 15) + 1))) && (Nat.ble ((pa n).size + (pb n).size) 4611686018427387904 && (pa n ++ pb n).data.toList == [H (n / 16), H (n % 16)]))))
theorem all256 : ((List.range 256).all tst) = true := by kernel_rfl
structure Byte (B : Int) (n : Nat) : Prop where
  c1 : inb (IntKind.u8.wrap ((shrI .u8 B 4) + 1)) 17 = true
  c2 : (decide (0 ≤ shrI .u8 B 4) && decide (shrI .u8 B 4 ≤ IntKind.u8.wrap ((shrI .u8 B 4) + 1))) = true
  c3 : inb (IntKind.u8.wrap ((bits .and .u8 B 15) + 1)) 17 = true
  c4 : (decide (0 ≤ bits .and .u8 B 15) && decide (bits .and .u8 B 15 ≤ IntKind.u8.wrap ((bits .and .u8 B 15) + 1))) = true
  c5 : Nat.ble ((pa B).size + (pb B).size) 4611686018427387904 = true
  p : (pa B ++ pb B).data.toList = [H (n / 16), H (n % 16)]
theorem byte_ok {B : Int} {n : Nat} (e : B = (n : Int)) (h : n < 256) : Byte B n := by
  subst e
  have := List.all_eq_true.1 all256 n (List.mem_range.2 h)
  simp only [tst, Bool.and_eq_true] at this
  obtain ⟨h1, h2, h3, h4, h5, h6⟩ := this
  exact ⟨h1, by simpa using h2, h3, by simpa using h4, h5, by simpa using h6⟩
def b5 (X : Nat) : Nat := X / 1099511627776 % 256
def b4 (X : Nat) : Nat := X / 4294967296 % 256
def b3 (X : Nat) : Nat := X / 16777216 % 256
def b2 (X : Nat) : Nat := X / 65536 % 256
def b1 (X : Nat) : Nat := X / 256 % 256
def b0' (X : Nat) : Nat := X % 256
def tl (X : Nat) : List UInt8 := [H (b5 X / 16), H (b5 X % 16), 58, H (b4 X / 16), H (b4 X % 16), 58, H (b3 X / 16), H (b3 X % 16), 58, H (b2 X / 16), H (b2 X % 16), 58, H (b1 X / 16), H (b1 X % 16), 58, H (b0' X / 16), H (b0' X % 16)]
theorem w40 (X : Nat) : IntKind.u8.wrap (shrI .u64 (X : Int) 40) = ((b5 X : Nat) : Int) := by rw [b40]; unfold b5; omega
theorem w32 (X : Nat) : IntKind.u8.wrap (shrI .u64 (X : Int) 32) = ((b4 X : Nat) : Int) := by rw [b32]; unfold b4; omega
theorem w24 (X : Nat) : IntKind.u8.wrap (shrI .u64 (X : Int) 24) = ((b3 X : Nat) : Int) := by rw [b24]; unfold b3; omega
theorem w16 (X : Nat) : IntKind.u8.wrap (shrI .u64 (X : Int) 16) = ((b2 X : Nat) : Int) := by rw [b16]; unfold b2; omega
theorem w8 (X : Nat) : IntKind.u8.wrap (shrI .u64 (X : Int) 8) = ((b1 X : Nat) : Int) := by rw [b8]; unfold b1; omega
theorem w0 (X : Nat) : IntKind.u8.wrap (shrI .u64 (X : Int) 0) = ((b0' X : Nat) : Int) := by rw [Ve.b0]; unfold b0'; omega
theorem text_ex (X : Nat) (hX : X < 281474976710656) (α : Type) (k0 : ByteArray → Option α) : mac_Text (X : Int) k0 = k0 ⟨(tl X).toArray⟩ := by
  have f5 := byte_ok (w40 X) (by unfold b5; omega)
  have f4 := byte_ok (w32 X) (by unfold b4; omega)
  have f3 := byte_ok (w24 X) (by unfold b3; omega)
  have f2 := byte_ok (w16 X) (by unfold b2; omega)
  have f1 := byte_ok (w8 X) (by unfold b1; omega)
  have f0 := byte_ok (w0 X) (by unfold b0'; omega)
  have s5 : Nat.ble ((e29 X).size + (e30 X).size) 4611686018427387904 = true := f5.c5
  have s4 : Nat.ble ((e31 X).size + (e32 X).size) 4611686018427387904 = true := f4.c5
  have s3 : Nat.ble ((e34 X).size + (e35 X).size) 4611686018427387904 = true := f3.c5
  have s2 : Nat.ble ((e36 X).size + (e37 X).size) 4611686018427387904 = true := f2.c5
  have s1 : Nat.ble ((e39 X).size + (e40 X).size) 4611686018427387904 = true := f1.c5
  have s0 : Nat.ble ((e41 X).size + (e42 X).size) 4611686018427387904 = true := f0.c5
  have p5 : ((e29 X) ++ (e30 X)).data.toList = [H (b5 X / 16), H (b5 X % 16)] := f5.p
  have p4 : ((e31 X) ++ (e32 X)).data.toList = [H (b4 X / 16), H (b4 X % 16)] := f4.p
  have p3 : ((e34 X) ++ (e35 X)).data.toList = [H (b3 X / 16), H (b3 X % 16)] := f3.p
  have p2 : ((e36 X) ++ (e37 X)).data.toList = [H (b2 X / 16), H (b2 X % 16)] := f2.p
  have p1 : ((e39 X) ++ (e40 X)).data.toList = [H (b1 X / 16), H (b1 X % 16)] := f1.p
  have p0 : ((e41 X) ++ (e42 X)).data.toList = [H (b0' X / 16), H (b0' X % 16)] := f0.p
  have hrow : (rowL 6 (e43 X)).map (·.data.toList) = [((e29 X) ++ (e30 X)).data.toList, ((e31 X) ++ (e32 X)).data.toList, ((e34 X) ++ (e35 X)).data.toList, ((e36 X) ++ (e37 X)).data.toList, ((e39 X) ++ (e40 X)).data.toList, ((e41 X) ++ (e42 X)).data.toList] := by kernel_rfl
  rw [p5, p4, p3, p2, p1, p0] at hrow
  have hj : Lib.join ((rowL 6 (e43 X)).map (·.data.toList)) (⟨#[58]⟩ : ByteArray).data.toList = tl X := by rw [hrow]; rfl
  have hok : joinOk 6 (e43 X) (⟨#[58]⟩ : ByteArray) = true := by unfold joinOk; rw [hj]; rfl
  have hs : joinS 6 (e43 X) (⟨#[58]⟩ : ByteArray) = ⟨(tl X).toArray⟩ := by unfold joinS; rw [hj]
  unfold mac_Text mac_Text_T
  rw [shr48 (by omega), dec_t (show (X : Int) < 281474976710656 by omega)]
  rw [f5.c1, f5.c2, f5.c3, f5.c4, s5, f4.c1, f4.c2, f4.c3, f4.c4, s4, f3.c1, f3.c2, f3.c3, f3.c4, s3, f2.c1, f2.c2, f2.c3, f2.c4, s2, f1.c1, f1.c2, f1.c3, f1.c4, s1, f0.c1, f0.c2, f0.c3, f0.c4, s0, hok, hs]
  rfl
/-! ### digits -/
def D : List UInt8 := (⟨#[48, 49, 50, 51, 52, 53, 54, 55, 56, 57, 97, 98, 99, 100, 101, 102]⟩ : ByteArray).data.toList
def hv (p : ByteArray) (t : Int) : Int := Lib.indexByte D (bt p t).toNat.toUInt8
def gp (p : ByteArray) : Bool := p.size == 2 && (decide (0 ≤ hv p 0) && decide (0 ≤ hv p 1))
def vp (p : ByteArray) : Int := IntKind.u8.wrap (bits .or .i64 (shlI .i64 (hv p 0) 4) (hv p 1))
def dig (c : Nat) : Bool := Lib.indexByte D c.toUInt8 == -1 || (decide (0 ≤ Lib.indexByte D c.toUInt8) && (decide (Lib.indexByte D c.toUInt8 < 16) && H (Lib.indexByte D c.toUInt8).toNat == c.toUInt8))
theorem dig_all : ((List.range 256).all dig) = true := by kernel_rfl
theorem dig_ok (c : UInt8) (h : 0 ≤ Lib.indexByte D c) : ∃ n : Nat, n < 16 ∧ Lib.indexByte D c = (n : Int) ∧ c = H n := by
  have e : c.toNat.toUInt8 = c := UInt8.ofNat_toNat
  have := List.all_eq_true.1 dig_all c.toNat (List.mem_range.2 c.toNat_lt)
  simp only [dig, e, Bool.or_eq_true, Bool.and_eq_true, beq_iff_eq, decide_eq_true_eq] at this
  rcases this with h1 | ⟨h1, h2, h3⟩
  · omega
  · exact ⟨(Lib.indexByte D c).toNat, by omega, by omega, h3.symm⟩
def undig (n : Nat) : Bool := Lib.indexByte D (H n) == (n : Int) && !(H n == 58)
theorem undig_all : ((List.range 16).all undig) = true := by kernel_rfl
theorem undig_ok (n : Nat) (h : n < 16) : Lib.indexByte D (H n) = (n : Int) ∧ H n ≠ 58 := by
  have := List.all_eq_true.1 undig_all n (List.mem_range.2 h)
  simpa [undig] using this
def twod : Bool := (List.range 16).all fun n => (List.range 16).all fun m => IntKind.u8.wrap (bits .or .i64 (shlI .i64 (n : Int) 4) (m : Int)) == ((n * 16 + m : Nat) : Int)
theorem twod_all : twod = true := by kernel_rfl
theorem twod_ok (n m : Nat) (hn : n < 16) (hm : m < 16) : IntKind.u8.wrap (bits .or .i64 (shlI .i64 (n : Int) 4) (m : Int)) = ((n * 16 + m : Nat) : Int) := by
  have := List.all_eq_true.1 (List.all_eq_true.1 twod_all n (List.mem_range.2 hn)) m (List.mem_range.2 hm)
  simpa using this
theorem bt0 (x y : UInt8) : (bt ⟨#[x, y]⟩ 0).toNat.toUInt8 = x := by
  show (((x.toNat : Int)).toNat).toUInt8 = x
  rw [Int.toNat_natCast]
  exact UInt8.ofNat_toNat
theorem bt1 (x y : UInt8) : (bt ⟨#[x, y]⟩ 1).toNat.toUInt8 = y := by
  show (((y.toNat : Int)).toNat).toUInt8 = y
  rw [Int.toNat_natCast]
  exact UInt8.ofNat_toNat
theorem gp_of {n m : Nat} (hn : n < 16) (hm : m < 16) : gp ⟨#[H n, H m]⟩ = true ∧ vp ⟨#[H n, H m]⟩ = ((n * 16 + m : Nat) : Int) := by
  have e0 : hv ⟨#[H n, H m]⟩ 0 = (n : Int) := by unfold hv; rw [bt0]; exact (undig_ok n hn).1
  have e1 : hv ⟨#[H n, H m]⟩ 1 = (m : Int) := by unfold hv; rw [bt1]; exact (undig_ok m hm).1
  constructor
  · unfold gp
    rw [e0, e1, dec_t (by omega), dec_t (by omega)]
    rfl
  · unfold vp
    rw [e0, e1, twod_ok n m hn hm]
theorem of_gp {p : ByteArray} (h : gp p = true) : ∃ n m : Nat, n < 16 ∧ m < 16 ∧ p = ⟨#[H n, H m]⟩ := by
  simp only [gp, Bool.and_eq_true, beq_iff_eq, decide_eq_true_eq] at h
  obtain ⟨h1, h2, h3⟩ := h
  obtain ⟨x, y, rfl⟩ : ∃ x y, p = ⟨#[x, y]⟩ := by
    obtain ⟨⟨l⟩⟩ := p
    match l, h1 with
    | [x, y], _ => exact ⟨x, y, rfl⟩
  unfold hv at h2 h3
  rw [bt0] at h2
  rw [bt1] at h3
  obtain ⟨n, hn, _, rfl⟩ := dig_ok x h2
  obtain ⟨m, hm, _, rfl⟩ := dig_ok y h3
  exact ⟨n, m, hn, hm, rfl⟩
/-! ### the loop over the pieces -/
theorem bnd {n : Nat} (h : n ≤ 200000) : Nat.ble (n * 1) bound = true := ble_true (by unfold bound; omega)
theorem e7_hv (row : Nat → Nat → PV) (i : Nat) : e7 row (i : Int) = hv (textOf (row i 0)) 0 := by unfold e7; rw [Int.toNat_natCast]; rfl
theorem e8_hv (row : Nat → Nat → PV) (i : Nat) : e8 row (i : Int) = hv (textOf (row i 0)) 1 := by unfold e8; rw [Int.toNat_natCast]; rfl
theorem e9_vp (row : Nat → Nat → PV) (i : Nat) : e9 row (i : Int) = rowOf 1 [.val (.int .u8 (vp (textOf (row i 0))))] := by unfold e9; rw [e7_hv, e8_hv]; rfl
theorem step_end {α : Type} (k0 : Option α) (k1 : Bool → Nat → (Nat → Nat → PV) → Option α) (m N n : Nat) (nl : Bool) (f row : Nat → Nat → PV) : mac_Parse_L0_l0 k0 k1 (m + 1) (N : Int) (N : Int) nl n f N row = k1 nl n f := by
  show mac_Parse_L0_s0 _ k0 k1 (N : Int) (N : Int) nl n f N row = _
  unfold mac_Parse_L0_s0
  rw [dec_f (Int.lt_irrefl _), cond_false]
theorem step_bad {α : Type} (k0 : Option α) (k1 : Bool → Nat → (Nat → Nat → PV) → Option α) (m N i n : Nat) (nl : Bool) (f row : Nat → Nat → PV) (hi : i < N) (hb : gp (textOf (row i 0)) = false) : mac_Parse_L0_l0 k0 k1 (m + 1) (N : Int) (i : Int) nl n f N row = k0 := by
  show mac_Parse_L0_s0 _ k0 k1 (N : Int) (i : Int) nl n f N row = _
  unfold mac_Parse_L0_s0
  rw [dec_t (show (i : Int) < (N : Int) by omega), inb_t (show (0 : Int) ≤ (i : Int) by omega) (show (i : Int) < (N : Int) by omega), cond_true, cond_true, e7_hv, e8_hv, Int.toNat_natCast]
  unfold gp at hb
  generalize textOf (row i 0) = p at *
  by_cases h2 : p.size = 2
  · rw [h2, show (((2 : Nat) : Int) != 2) = false from rfl, cond_false, inb_t (show (0 : Int) ≤ 0 by omega) (show (0 : Int) < ((2 : Nat) : Int) by omega), inb_t (show (0 : Int) ≤ 1 by omega) (show (1 : Int) < ((2 : Nat) : Int) by omega), cond_true, cond_true]
    by_cases h3 : hv p 0 < 0
    · rw [dec_t h3, cond_true]
    · rw [dec_f h3, cond_false]
      by_cases h4 : hv p 1 < 0
      · rw [dec_t h4, cond_true]
      · rw [h2, dec_t (show 0 ≤ hv p 0 by omega), dec_t (show 0 ≤ hv p 1 by omega)] at hb
        cases hb
  · rw [show ((p.size : Int) != 2) = true from bne_iff_ne.2 (by omega), cond_true]
theorem step_good {α : Type} (k0 : Option α) (k1 : Bool → Nat → (Nat → Nat → PV) → Option α) (m N i n : Nat) (nl : Bool) (f row : Nat → Nat → PV) (hi : i < N) (hN : N ≤ 1000) (hn : n ≤ 1000) (hb : gp (textOf (row i 0)) = true) : mac_Parse_L0_l0 k0 k1 (m + 1) (N : Int) (i : Int) nl n f N row = mac_Parse_L0_l0 k0 k1 m (N : Int) ((i + 1 : Nat) : Int) (nl && false) (n + 1) (catf n f (rowOf 1 [.val (.int .u8 (vp (textOf (row i 0))))])) N row := by
  show mac_Parse_L0_s0 (mac_Parse_L0_l0 k0 k1 m) k0 k1 (N : Int) (i : Int) nl n f N row = _
  unfold mac_Parse_L0_s0
  rw [dec_t (show (i : Int) < (N : Int) by omega), inb_t (show (0 : Int) ≤ (i : Int) by omega) (show (i : Int) < (N : Int) by omega), cond_true, cond_true, e7_hv, e8_hv, e9_vp, Int.toNat_natCast]
  simp only [gp, Bool.and_eq_true, beq_iff_eq, decide_eq_true_eq] at hb
  obtain ⟨h1, h2, h3⟩ := hb
  rw [h1, show (((2 : Nat) : Int) != 2) = false from rfl, cond_false, inb_t (show (0 : Int) ≤ 0 by omega) (show (0 : Int) < ((2 : Nat) : Int) by omega), inb_t (show (0 : Int) ≤ 1 by omega) (show (1 : Int) < ((2 : Nat) : Int) by omega), cond_true, cond_true, dec_f (show ¬ hv (textOf (row i 0)) 0 < 0 by omega), dec_f (show ¬ hv (textOf (row i 0)) 1 < 0 by omega), cond_false, cond_false, bnd (show n + 1 ≤ 200000 by omega), cond_true, i64_id (by omega) (by omega)]
  rfl
theorem loop_bad {N : Nat} {row : Nat → Nat → PV} (hN : N ≤ 1000) : ∀ (r m i : Nat) (nl : Bool) (f : Nat → Nat → PV), i + r = N → r < m → (∃ j, i ≤ j ∧ j < N ∧ gp (textOf (row j 0)) = false) → ∀ (α : Type) (k0 : Option α) k1, mac_Parse_L0_l0 k0 k1 m (N : Int) (i : Int) nl i f N row = k0
  | 0, m, i, nl, f, hi, hm, ⟨j, h1, h2, _⟩ => by omega
  | r + 1, 0, i, nl, f, hi, hm, _ => by omega
  | r + 1, m + 1, i, nl, f, hi, hm, ⟨j, h1, h2, h3⟩ => by
    intro α k0 k1
    cases hg : gp (textOf (row i 0)) with
    | false => exact step_bad k0 k1 m N i i nl f row (by omega) hg
    | true =>
      rw [step_good k0 k1 m N i i nl f row (by omega) hN (by omega) hg]
      have hne : j ≠ i := fun e => by rw [e, hg] at h3; cases h3
      exact loop_bad hN r m (i + 1) _ _ (by omega) (by omega) ⟨j, by omega, h2, h3⟩ α k0 k1
theorem loop_good {N : Nat} {row : Nat → Nat → PV} (hN : N ≤ 1000) : ∀ (r m i : Nat) (nl : Bool) (f : Nat → Nat → PV), i + r = N → r < m → (∀ j, i ≤ j → j < N → gp (textOf (row j 0)) = true) → ∃ nl' f', (∀ j, j < i → f' j 0 = f j 0) ∧ (∀ j, i ≤ j → j < N → numOf (f' j 0) = vp (textOf (row j 0))) ∧ ∀ (α : Type) (k0 : Option α) k1, mac_Parse_L0_l0 k0 k1 m (N : Int) (i : Int) nl i f N row = k1 nl' N f'
  | 0, 0, i, nl, f, hi, hm, _ => by omega
  | 0, m + 1, i, nl, f, hi, hm, _ => by
    obtain rfl : i = N := by omega
    exact ⟨nl, f, fun _ _ => rfl, fun j h1 h2 => by omega, fun α k0 k1 => step_end k0 k1 m i i nl f row⟩
  | r + 1, 0, i, nl, f, hi, hm, _ => by omega
  | r + 1, m + 1, i, nl, f, hi, hm, h => by
    have hg := h i (Nat.le_refl i) (by omega)
    obtain ⟨nl', f', k1, k2, k3⟩ := loop_good hN r m (i + 1) (nl && false) (catf i f (rowOf 1 [.val (.int .u8 (vp (textOf (row i 0))))])) (by omega) (by omega) (fun j h1 h2 => h j (by omega) h2)
    refine ⟨nl', f', fun j hj => ?_, fun j h1 h2 => ?_, fun α q0 q1 => ?_⟩
    · rw [k1 j (by omega), catf_lo hj]
    · by_cases hj : j = i
      · subst hj
        rw [k1 j (by omega)]
        have := catf_hi j f (rowOf 1 [.val (.int .u8 (vp (textOf (row j 0))))]) 0 0
        rw [Nat.add_zero] at this
        rw [this]
        rfl
      · exact k2 j (by omega) h2
    · rw [step_good q0 q1 m N i i nl f row (by omega) hN (by omega) hg, k3]
/-! ### the reference's text -/
def qa (B : Int) : ByteArray := (⟨#[48, 49, 50, 51, 52, 53, 54, 55, 56, 57, 97, 98, 99, 100, 101, 102]⟩ : ByteArray).extract ((IntKind.u8.wrap (B.tdiv 16)).toNat) (((IntKind.u8.wrap (B.tdiv 16)).toNat) + (((IntKind.u8.wrap ((IntKind.u8.wrap (B.tdiv 16)) + 1)).toNat) - ((IntKind.u8.wrap (B.tdiv 16)).toNat)))
def qb (B : Int) : ByteArray := (⟨#[48, 49, 50, 51, 52, 53, 54, 55, 56, 57, 97, 98, 99, 100, 101, 102]⟩ : ByteArray).extract ((B.tmod 16).toNat) (((B.tmod 16).toNat) + (((IntKind.u8.wrap ((B.tmod 16) + 1)).toNat) - ((B.tmod 16).toNat)))
def tst2 (n : Nat) : Bool := inb (IntKind.u8.wrap ((IntKind.u8.wrap ((n : Int).tdiv 16)) + 1)) 17 && ((decide (0 ≤ IntKind.u8.wrap ((n : Int).tdiv 16)) && decide (IntKind.u8.wrap ((n : Int).tdiv 16) ≤ IntKind.u8.wrap ((IntKind.u8.wrap ((n : Int).tdiv 16)) + 1))) && (inb (IntKind.u8.wrap (((n : Int).tmod 16) + 1)) 17 && ((decide (0 ≤ (n : Int).tmod 16) && decide ((n : Int).tmod 16 ≤ IntKind.u8.wrap (((n : Int).tmod 16) + 1))) && (Nat.ble ((qa n).size + (qb n).size) 4611686018427387904 && (qa n ++ qb n).data.toList == [H (n / 16), H (n % 16)]))))
theorem all256r : ((List.range 256).all tst2) = true := by kernel_rfl
structure Byte2 (B : Int) (n : Nat) : Prop where
  c1 : inb (IntKind.u8.wrap ((IntKind.u8.wrap (B.tdiv 16)) + 1)) 17 = true
  c2 : (decide (0 ≤ IntKind.u8.wrap (B.tdiv 16)) && decide (IntKind.u8.wrap (B.tdiv 16) ≤ IntKind.u8.wrap ((IntKind.u8.wrap (B.tdiv 16)) + 1))) = true
  c3 : inb (IntKind.u8.wrap ((B.tmod 16) + 1)) 17 = true
  c4 : (decide (0 ≤ B.tmod 16) && decide (B.tmod 16 ≤ IntKind.u8.wrap ((B.tmod 16) + 1))) = true
  c5 : Nat.ble ((qa B).size + (qb B).size) 4611686018427387904 = true
  p : qa B ++ qb B = ⟨#[H (n / 16), H (n % 16)]⟩
theorem ba_ext {a : ByteArray} {l : List UInt8} (h : a.data.toList = l) : a = ⟨l.toArray⟩ := by
  obtain ⟨⟨a⟩⟩ := a
  subst h
  rfl
theorem byte2_ok {B : Int} {n : Nat} (e : B = (n : Int)) (h : n < 256) : Byte2 B n := by
  subst e
  have := List.all_eq_true.1 all256r n (List.mem_range.2 h)
  simp only [tst2, Bool.and_eq_true] at this
  obtain ⟨h1, h2, h3, h4, h5, h6⟩ := this
  exact ⟨h1, by simpa using h2, h3, by simpa using h4, h5, ba_ext (by simpa using h6)⟩
theorem wx (X : Nat) : IntKind.u8.wrap (X : Int) = ((b0' X : Nat) : Int) := by rw [wrap_u8]; unfold b0'; omega
theorem ref_text (X : Nat) (hX : X < 281474976710656) (α : Type) (k0 : ByteArray → Option α) : ref09_Text (X : Int) k0 = k0 ⟨(tl X).toArray⟩ := by
  have f5 := byte2_ok (w40 X) (by unfold b5; omega)
  have f4 := byte2_ok (w32 X) (by unfold b4; omega)
  have f3 := byte2_ok (w24 X) (by unfold b3; omega)
  have f2 := byte2_ok (w16 X) (by unfold b2; omega)
  have f1 := byte2_ok (w8 X) (by unfold b1; omega)
  have f0 := byte2_ok (wx X) (by unfold b0'; omega)
  have s5 : Nat.ble ((e12 X).size + (e13 X).size) 4611686018427387904 = true := f5.c5
  have s4 : Nat.ble ((e14 X).size + (e15 X).size) 4611686018427387904 = true := f4.c5
  have s3 : Nat.ble ((e17 X).size + (e18 X).size) 4611686018427387904 = true := f3.c5
  have s2 : Nat.ble ((e20 X).size + (e21 X).size) 4611686018427387904 = true := f2.c5
  have s1 : Nat.ble ((e22 X).size + (e23 X).size) 4611686018427387904 = true := f1.c5
  have s0 : Nat.ble ((e25 X).size + (e26 X).size) 4611686018427387904 = true := f0.c5
  have p5 : (e12 X) ++ (e13 X) = ⟨#[H (b5 X / 16), H (b5 X % 16)]⟩ := f5.p
  have p4 : (e14 X) ++ (e15 X) = ⟨#[H (b4 X / 16), H (b4 X % 16)]⟩ := f4.p
  have p3 : (e17 X) ++ (e18 X) = ⟨#[H (b3 X / 16), H (b3 X % 16)]⟩ := f3.p
  have p2 : (e20 X) ++ (e21 X) = ⟨#[H (b2 X / 16), H (b2 X % 16)]⟩ := f2.p
  have p1 : (e22 X) ++ (e23 X) = ⟨#[H (b1 X / 16), H (b1 X % 16)]⟩ := f1.p
  have p0 : (e25 X) ++ (e26 X) = ⟨#[H (b0' X / 16), H (b0' X % 16)]⟩ := f0.p
  have q16 : e16 X = ⟨#[H (b5 X / 16), H (b5 X % 16), 58, H (b4 X / 16), H (b4 X % 16)]⟩ := by unfold e16; rw [p5, p4]; rfl
  have q19 : e19 X = ⟨#[H (b5 X / 16), H (b5 X % 16), 58, H (b4 X / 16), H (b4 X % 16), 58, H (b3 X / 16), H (b3 X % 16), 58]⟩ := by unfold e19; rw [q16, p3]; rfl
  have q24 : e24 X = ⟨#[H (b5 X / 16), H (b5 X % 16), 58, H (b4 X / 16), H (b4 X % 16), 58, H (b3 X / 16), H (b3 X % 16), 58, H (b2 X / 16), H (b2 X % 16), 58, H (b1 X / 16), H (b1 X % 16)]⟩ := by unfold e24; rw [q19, p2, p1]; rfl
  unfold ref09_Text ref09_Text_T
  rw [dec_t (show (X : Int) < 281474976710656 by omega)]
  rw [f5.c1, f5.c2, f5.c3, f5.c4, s5, f4.c1, f4.c2, f4.c3, f4.c4, s4, f3.c1, f3.c2, f3.c3, f3.c4, s3, f2.c1, f2.c2, f2.c3, f2.c4, s2, f1.c1, f1.c2, f1.c3, f1.c4, s1, f0.c1, f0.c2, f0.c3, f0.c4, s0, p5, p4, p3, p2, p1, p0, q16, q19, q24]
  rfl
/-! ### addresses -/
def S (r : Nat → Nat → PV) : Int := ((((numOf (r 0 0) * 256 + numOf (r 1 0)) * 256 + numOf (r 2 0)) * 256 + numOf (r 3 0)) * 256 + numOf (r 4 0)) * 256 + numOf (r 5 0)
theorem of0 {α : Type} (k0 : Int → Option α) (m : Nat) (x : Int) (nl : Bool) (r : Nat → Nat → PV) : mac_Of_L0_l0 k0 (m + 1) x nl 6 r 6 0 = mac_Of_L0_l0 k0 m (bits .or .u64 (shlI .u64 x 8) (IntKind.u64.wrap (numOf (r 0 0)))) nl 6 r 6 1 := by kernel_rfl
theorem of1 {α : Type} (k0 : Int → Option α) (m : Nat) (x : Int) (nl : Bool) (r : Nat → Nat → PV) : mac_Of_L0_l0 k0 (m + 1) x nl 6 r 6 1 = mac_Of_L0_l0 k0 m (bits .or .u64 (shlI .u64 x 8) (IntKind.u64.wrap (numOf (r 1 0)))) nl 6 r 6 2 := by kernel_rfl
theorem of2 {α : Type} (k0 : Int → Option α) (m : Nat) (x : Int) (nl : Bool) (r : Nat → Nat → PV) : mac_Of_L0_l0 k0 (m + 1) x nl 6 r 6 2 = mac_Of_L0_l0 k0 m (bits .or .u64 (shlI .u64 x 8) (IntKind.u64.wrap (numOf (r 2 0)))) nl 6 r 6 3 := by kernel_rfl
theorem of3 {α : Type} (k0 : Int → Option α) (m : Nat) (x : Int) (nl : Bool) (r : Nat → Nat → PV) : mac_Of_L0_l0 k0 (m + 1) x nl 6 r 6 3 = mac_Of_L0_l0 k0 m (bits .or .u64 (shlI .u64 x 8) (IntKind.u64.wrap (numOf (r 3 0)))) nl 6 r 6 4 := by kernel_rfl
theorem of4 {α : Type} (k0 : Int → Option α) (m : Nat) (x : Int) (nl : Bool) (r : Nat → Nat → PV) : mac_Of_L0_l0 k0 (m + 1) x nl 6 r 6 4 = mac_Of_L0_l0 k0 m (bits .or .u64 (shlI .u64 x 8) (IntKind.u64.wrap (numOf (r 4 0)))) nl 6 r 6 5 := by kernel_rfl
theorem of5 {α : Type} (k0 : Int → Option α) (m : Nat) (x : Int) (nl : Bool) (r : Nat → Nat → PV) : mac_Of_L0_l0 k0 (m + 1) x nl 6 r 6 5 = mac_Of_L0_l0 k0 m (bits .or .u64 (shlI .u64 x 8) (IntKind.u64.wrap (numOf (r 5 0)))) nl 6 r 6 6 := by kernel_rfl
theorem of6 {α : Type} (k0 : Int → Option α) (m : Nat) (x : Int) (nl : Bool) (r : Nat → Nat → PV) : mac_Of_L0_l0 k0 (m + 1) x nl 6 r 6 6 = k0 x := by kernel_rfl
theorem mac_of (nl : Bool) (r : Nat → Nat → PV) (h : ∀ j, j < 6 → 0 ≤ numOf (r j 0) ∧ numOf (r j 0) ≤ 255) (α : Type) (k : Int → Int → Option α) : mac_Of nl 6 r k = k (S r) 0 := by
  have h0 := h 0 (by omega)
  have h1 := h 1 (by omega)
  have h2 := h 2 (by omega)
  have h3 := h 3 (by omega)
  have h4 := h 4 (by omega)
  have h5 := h 5 (by omega)
  have e : mac_Of nl 6 r k = mac_Of_L0_l0 (fun x => k x 0) (1152921504606846969 + 1 + 1 + 1 + 1 + 1 + 1 + 1) 0 nl 6 r 6 0 := by kernel_rfl
  rw [e, of0, of1, of2, of3, of4, of5, of6]
  unfold S
  rw [orv 0 _ (by omega) (by omega) (by omega) (by omega), show (0 : Int) * 256 + numOf (r 0 0) = numOf (r 0 0) by omega]
  rw [orv (numOf (r 0 0)) (numOf (r 1 0)) (by omega) (by omega) (by omega) (by omega), orv (numOf (r 0 0) * 256 + numOf (r 1 0)) (numOf (r 2 0)) (by omega) (by omega) (by omega) (by omega), orv ((numOf (r 0 0) * 256 + numOf (r 1 0)) * 256 + numOf (r 2 0)) (numOf (r 3 0)) (by omega) (by omega) (by omega) (by omega), orv (((numOf (r 0 0) * 256 + numOf (r 1 0)) * 256 + numOf (r 2 0)) * 256 + numOf (r 3 0)) (numOf (r 4 0)) (by omega) (by omega) (by omega) (by omega), orv ((((numOf (r 0 0) * 256 + numOf (r 1 0)) * 256 + numOf (r 2 0)) * 256 + numOf (r 3 0)) * 256 + numOf (r 4 0)) (numOf (r 5 0)) (by omega) (by omega) (by omega) (by omega)]
theorem mac_no (nl : Bool) (N : Nat) (hN : N ≠ 6) (r : Nat → Nat → PV) (α : Type) (k : Int → Int → Option α) : mac_Of nl N r k = k 0 11 := by
  unfold mac_Of mac_Of_T
  rw [show ((N : Int) != 6) = true from bne_iff_ne.2 (by omega), cond_true]
/-! ### texts -/
theorem split_step (x y : UInt8) (r : List UInt8) (hx : x ≠ 58) (hy : y ≠ 58) (k : Nat) : Lib.splitK [58] 0 (k + 1) (x :: y :: 58 :: r) = [x, y] :: Lib.splitK [58] 0 k r := by
  have h : Lib.index (x :: y :: 58 :: r) [58] = 2 := by
    rw [Lib.index_one]
    simp [Lib.indexByte, hx, hy]
  rw [Lib.splitK, h]
  rfl
theorem cnt_step (x y : UInt8) (r : List UInt8) (hx : x ≠ 58) (hy : y ≠ 58) : (x :: y :: 58 :: r).count 58 = r.count 58 + 1 := by
  simp [List.count_cons, hx, hy]
theorem Hne {n : Nat} (h : n < 16) : H n ≠ 58 := (undig_ok n h).2
def six' (v : Nat) : List ByteArray := [⟨#[H (b5 v / 16), H (b5 v % 16)]⟩, ⟨#[H (b4 v / 16), H (b4 v % 16)]⟩, ⟨#[H (b3 v / 16), H (b3 v % 16)]⟩, ⟨#[H (b2 v / 16), H (b2 v % 16)]⟩, ⟨#[H (b1 v / 16), H (b1 v % 16)]⟩, ⟨#[H (b0' v / 16), H (b0' v % 16)]⟩]
theorem text_pieces (X : Nat) : splitL ⟨(tl X).toArray⟩ ⟨#[58]⟩ = six' X := by
  have l5 : b5 X < 256 := by unfold b5; omega
  have l4 : b4 X < 256 := by unfold b4; omega
  have l3 : b3 X < 256 := by unfold b3; omega
  have l2 : b2 X < 256 := by unfold b2; omega
  have l1 : b1 X < 256 := by unfold b1; omega
  have l0 : b0' X < 256 := by unfold b0'; omega
  rw [splitL_eq]
  show (Lib.splitK [58] 0 ((tl X).count 58) (tl X)).map (fun l => (⟨l.toArray⟩ : ByteArray)) = _
  have hc : (tl X).count 58 = 5 := by
    unfold tl
    rw [cnt_step _ _ _ (Hne (by omega)) (Hne (by omega)), cnt_step _ _ _ (Hne (by omega)) (Hne (by omega)), cnt_step _ _ _ (Hne (by omega)) (Hne (by omega)), cnt_step _ _ _ (Hne (by omega)) (Hne (by omega)), cnt_step _ _ _ (Hne (by omega)) (Hne (by omega))]
    simp [List.count_cons, Hne (show b0' X / 16 < 16 by omega), Hne (show b0' X % 16 < 16 by omega)]
  rw [hc]
  unfold tl
  rw [split_step _ _ _ (Hne (by omega)) (Hne (by omega)), split_step _ _ _ (Hne (by omega)) (Hne (by omega)), split_step _ _ _ (Hne (by omega)) (Hne (by omega)), split_step _ _ _ (Hne (by omega)) (Hne (by omega)), split_step _ _ _ (Hne (by omega)) (Hne (by omega))]
  rfl
theorem split_len (s : ByteArray) (hs : s.size ≤ 100) : splitN s ⟨#[58]⟩ ≤ 101 := by
  have h1 := Lib.splitB_all ⟨#[58]⟩ (Nat.le_refl 1) 0 _ s rfl
  have h2 := Lib.countB_le ⟨#[58]⟩ (Nat.le_refl 1) s.size s (Nat.le_refl _)
  unfold splitN splitL
  omega
theorem parse_open (s : ByteArray) (hs : s.size ≤ 100) (α : Type) (k : Int → Int → Option α) : mac_Parse s k = mac_Parse_L0_l0 (k 0 11) (fun nl n f => mac_Of nl n f k) 1152921504606846976 ((splitN s ⟨#[58]⟩ : Nat) : Int) ((0 : Nat) : Int) true 0 (fun _ _ => .val undef) (splitN s ⟨#[58]⟩) (splitRow s ⟨#[58]⟩) := by
  unfold mac_Parse mac_Parse_T
  rw [show splitOk s ⟨#[58]⟩ = true by unfold splitOk; rw [ble_true (show s.size ≤ 4294967280 by omega)]; rfl, cond_true]
  rfl
theorem parse_six (s : ByteArray) (hs : s.size ≤ 100) (p0 p1 p2 p3 p4 p5 : ByteArray) (h : splitL s ⟨#[58]⟩ = [p0, p1, p2, p3, p4, p5]) (g0 : gp p0 = true) (g1 : gp p1 = true) (g2 : gp p2 = true) (g3 : gp p3 = true) (g4 : gp p4 = true) (g5 : gp p5 = true) (v : Nat) (hv : (v : Int) = ((((vp p0 * 256 + vp p1) * 256 + vp p2) * 256 + vp p3) * 256 + vp p4) * 256 + vp p5)
    (hb : ∀ p, p ∈ [p0, p1, p2, p3, p4, p5] → 0 ≤ vp p ∧ vp p ≤ 255) (α : Type) (k : Int → Int → Option α) : mac_Parse s k = k (v : Int) 0 := by
  have hN : splitN s ⟨#[58]⟩ = 6 := by unfold splitN; rw [h]; rfl
  have ht : ∀ j, textOf (splitRow s ⟨#[58]⟩ j 0) = [p0, p1, p2, p3, p4, p5].getD j ⟨#[]⟩ := fun j => by show (splitL s ⟨#[58]⟩).getD j ⟨#[]⟩ = _; rw [h]
  obtain ⟨nl, f, _, q2, q3⟩ := loop_good (N := 6) (row := splitRow s ⟨#[58]⟩) (by omega) 6 1152921504606846976 0 true (fun _ _ => .val undef) (by omega) (by omega) (fun j _ hj => by
    rw [ht]
    match j, hj with
    | 0, _ => exact g0
    | 1, _ => exact g1
    | 2, _ => exact g2
    | 3, _ => exact g3
    | 4, _ => exact g4
    | 5, _ => exact g5)
  have e : ∀ j, j < 6 → numOf (f j 0) = vp ([p0, p1, p2, p3, p4, p5].getD j ⟨#[]⟩) := fun j hj => by rw [q2 j (Nat.zero_le j) hj, ht]
  rw [parse_open s hs, hN, q3, mac_of nl f (fun j hj => by
    rw [e j hj]
    refine hb _ ?_
    match j, hj with
    | 0, _ => simp
    | 1, _ => simp
    | 2, _ => simp
    | 3, _ => simp
    | 4, _ => simp
    | 5, _ => simp)]
  congr 1
  unfold S
  rw [e 0 (by omega), e 1 (by omega), e 2 (by omega), e 3 (by omega), e 4 (by omega), e 5 (by omega)]
  exact hv.symm
theorem parse_text (X : Nat) (hX : X < 281474976710656) (α : Type) (k : Int → Int → Option α) : mac_Parse ⟨(tl X).toArray⟩ k = k (X : Int) 0 := by
  have l5 : b5 X < 256 := by unfold b5; omega
  have l4 : b4 X < 256 := by unfold b4; omega
  have l3 : b3 X < 256 := by unfold b3; omega
  have l2 : b2 X < 256 := by unfold b2; omega
  have l1 : b1 X < 256 := by unfold b1; omega
  have l0 : b0' X < 256 := by unfold b0'; omega
  obtain ⟨g5, v5⟩ := gp_of (show b5 X / 16 < 16 by omega) (show b5 X % 16 < 16 by omega)
  obtain ⟨g4, v4⟩ := gp_of (show b4 X / 16 < 16 by omega) (show b4 X % 16 < 16 by omega)
  obtain ⟨g3, v3⟩ := gp_of (show b3 X / 16 < 16 by omega) (show b3 X % 16 < 16 by omega)
  obtain ⟨g2, v2⟩ := gp_of (show b2 X / 16 < 16 by omega) (show b2 X % 16 < 16 by omega)
  obtain ⟨g1, v1⟩ := gp_of (show b1 X / 16 < 16 by omega) (show b1 X % 16 < 16 by omega)
  obtain ⟨g0, v0⟩ := gp_of (show b0' X / 16 < 16 by omega) (show b0' X % 16 < 16 by omega)
  refine parse_six ⟨(tl X).toArray⟩ (by show 17 ≤ 100; omega) _ _ _ _ _ _ (text_pieces X) g5 g4 g3 g2 g1 g0 X ?_ ?_ α k
  · rw [v5, v4, v3, v2, v1, v0]
    unfold b5 b4 b3 b2 b1 b0'
    omega
  · intro p hp
    simp only [List.mem_cons, List.not_mem_nil, or_false] at hp
    rcases hp with rfl | rfl | rfl | rfl | rfl | rfl
    · rw [v5]; omega
    · rw [v4]; omega
    · rw [v3]; omega
    · rw [v2]; omega
    · rw [v1]; omega
    · rw [v0]; omega
theorem tl_inj (X Y : Nat) (hX : X < 281474976710656) (hY : Y < 281474976710656) (h : tl X = tl Y) : X = Y := by
  have h1 := parse_text X hX Int (fun v _ => some v)
  rw [h, parse_text Y hY Int (fun v _ => some v)] at h1
  injection h1 with h1
  omega
theorem parse_cases (s : ByteArray) (hs : s.size ≤ 100) : (∀ (α : Type) (k : Int → Int → Option α), mac_Parse s k = k 0 11) ∨ ∃ v : Nat, v < 281474976710656 ∧ s.data.toList = tl v ∧ ∀ (α : Type) (k : Int → Int → Option α), mac_Parse s k = k (v : Int) 0 := by
  have hN := split_len s hs
  by_cases hbad : ∃ j, 0 ≤ j ∧ j < splitN s ⟨#[58]⟩ ∧ gp (textOf (splitRow s ⟨#[58]⟩ j 0)) = false
  · refine .inl fun α k => ?_
    rw [parse_open s hs]
    exact loop_bad (by omega) (splitN s ⟨#[58]⟩) _ 0 _ _ (by omega) (by omega) hbad α _ _
  have hgood : ∀ j, 0 ≤ j → j < splitN s ⟨#[58]⟩ → gp (textOf (splitRow s ⟨#[58]⟩ j 0)) = true := fun j h0 h1 => by
    cases hg : gp (textOf (splitRow s ⟨#[58]⟩ j 0)) with
    | true => rfl
    | false => exact absurd ⟨j, h0, h1, hg⟩ hbad
  by_cases h6 : splitN s ⟨#[58]⟩ = 6
  rotate_left
  · refine .inl fun α k => ?_
    obtain ⟨nl, f, _, _, q3⟩ := loop_good (by omega) (splitN s ⟨#[58]⟩) 1152921504606846976 0 true (fun _ _ => .val undef) (by omega) (by omega) hgood
    rw [parse_open s hs, q3, mac_no nl _ h6]
  · have hd := Lib.splitB_data ⟨#[58]⟩ 0 (Lib.countB s ⟨#[58]⟩) s
    have hj := splitK_join 58 (Lib.countB s ⟨#[58]⟩) s.data.toList
    rw [show (⟨#[58]⟩ : ByteArray).data.toList = [58] from rfl] at hd
    rw [← hd] at hj
    have hl : (splitL s ⟨#[58]⟩).length = 6 := h6
    have hg : ∀ j, j < 6 → gp ((splitL s ⟨#[58]⟩).getD j ⟨#[]⟩) = true := fun j h => hgood j (Nat.zero_le j) (by rw [h6]; exact h)
    change Lib.join ((splitL s ⟨#[58]⟩).map (·.data.toList)) [58] = s.data.toList at hj
    generalize hL : splitL s ⟨#[58]⟩ = L at *
    match L, hl with
    | [p0, p1, p2, p3, p4, p5], _ =>
      have g0 : gp p0 = true := hg 0 (by omega)
      have g1 : gp p1 = true := hg 1 (by omega)
      have g2 : gp p2 = true := hg 2 (by omega)
      have g3 : gp p3 = true := hg 3 (by omega)
      have g4 : gp p4 = true := hg 4 (by omega)
      have g5 : gp p5 = true := hg 5 (by omega)
      obtain ⟨n0, m0, x0, y0, rfl⟩ := of_gp g0
      obtain ⟨n1, m1, x1, y1, rfl⟩ := of_gp g1
      obtain ⟨n2, m2, x2, y2, rfl⟩ := of_gp g2
      obtain ⟨n3, m3, x3, y3, rfl⟩ := of_gp g3
      obtain ⟨n4, m4, x4, y4, rfl⟩ := of_gp g4
      obtain ⟨n5, m5, x5, y5, rfl⟩ := of_gp g5
      have w0 := (gp_of x0 y0).2
      have w1 := (gp_of x1 y1).2
      have w2 := (gp_of x2 y2).2
      have w3 := (gp_of x3 y3).2
      have w4 := (gp_of x4 y4).2
      have w5 := (gp_of x5 y5).2
      let v : Nat := (((((n0 * 16 + m0) * 256 + (n1 * 16 + m1)) * 256 + (n2 * 16 + m2)) * 256 + (n3 * 16 + m3)) * 256 + (n4 * 16 + m4)) * 256 + (n5 * 16 + m5)
      have hv : v = (((((n0 * 16 + m0) * 256 + (n1 * 16 + m1)) * 256 + (n2 * 16 + m2)) * 256 + (n3 * 16 + m3)) * 256 + (n4 * 16 + m4)) * 256 + (n5 * 16 + m5) := rfl
      have r5 : b5 v = n0 * 16 + m0 := by unfold b5; omega
      have r4 : b4 v = n1 * 16 + m1 := by unfold b4; omega
      have r3 : b3 v = n2 * 16 + m2 := by unfold b3; omega
      have r2 : b2 v = n3 * 16 + m3 := by unfold b2; omega
      have r1 : b1 v = n4 * 16 + m4 := by unfold b1; omega
      have r0 : b0' v = n5 * 16 + m5 := by unfold b0'; omega
      refine .inr ⟨v, by omega, ?_, fun α k => ?_⟩
      · rw [← hj]
        unfold tl
        rw [r5, r4, r3, r2, r1, r0]
        rw [show (n0 * 16 + m0) / 16 = n0 by omega, show (n0 * 16 + m0) % 16 = m0 by omega, show (n1 * 16 + m1) / 16 = n1 by omega, show (n1 * 16 + m1) % 16 = m1 by omega, show (n2 * 16 + m2) / 16 = n2 by omega, show (n2 * 16 + m2) % 16 = m2 by omega, show (n3 * 16 + m3) / 16 = n3 by omega, show (n3 * 16 + m3) % 16 = m3 by omega, show (n4 * 16 + m4) / 16 = n4 by omega, show (n4 * 16 + m4) % 16 = m4 by omega, show (n5 * 16 + m5) / 16 = n5 by omega, show (n5 * 16 + m5) % 16 = m5 by omega]
        rfl
      · refine parse_six s hs _ _ _ _ _ _ hL g0 g1 g2 g3 g4 g5 v ?_ ?_ α k
        · rw [w0, w1, w2, w3, w4, w5, hv]
          omega
        · intro p hp
          simp only [List.mem_cons, List.not_mem_nil, or_false] at hp
          rcases hp with rfl | rfl | rfl | rfl | rfl | rfl
          · rw [w0]; omega
          · rw [w1]; omega
          · rw [w2]; omega
          · rw [w3]; omega
          · rw [w4]; omega
          · rw [w5]; omega
theorem ref_step (x c : Int) (h0 : 0 ≤ x) (h1 : x < 281474976710656) (hc : 0 ≤ c) (hc1 : c < 256) : IntKind.u64.wrap ((shlI .u64 x 8) + IntKind.u64.wrap c) = x * 256 + c := by
  rw [shl8, wrap_u64, wrap_u64]
  omega
theorem ref_of (nl : Bool) (r : Nat → Nat → PV) (h : ∀ j, j < 6 → 0 ≤ numOf (r j 0) ∧ numOf (r j 0) ≤ 255) (α : Type) (k : Int → Int → Option α) : ref09_Of nl 6 r k = k (S r) 0 := by
  have h0 := h 0 (by omega)
  have h1 := h 1 (by omega)
  have h2 := h 2 (by omega)
  have h3 := h 3 (by omega)
  have h4 := h 4 (by omega)
  have h5 := h 5 (by omega)
  have e : ref09_Of nl 6 r k = k (IntKind.u64.wrap ((shlI .u64 (e3 r) 8) + (IntKind.u64.wrap (numOf (r 5 0))))) 0 := by kernel_rfl
  rw [e]
  unfold e3 e2 e1 S
  rw [show IntKind.u64.wrap (0 + (IntKind.u64.wrap (numOf (r 0 0)))) = numOf (r 0 0) by rw [wrap_u64, wrap_u64]; omega]
  rw [ref_step (numOf (r 0 0)) (numOf (r 1 0)) (by omega) (by omega) (by omega) (by omega), ref_step (numOf (r 0 0) * 256 + numOf (r 1 0)) (numOf (r 2 0)) (by omega) (by omega) (by omega) (by omega), ref_step ((numOf (r 0 0) * 256 + numOf (r 1 0)) * 256 + numOf (r 2 0)) (numOf (r 3 0)) (by omega) (by omega) (by omega) (by omega), ref_step (((numOf (r 0 0) * 256 + numOf (r 1 0)) * 256 + numOf (r 2 0)) * 256 + numOf (r 3 0)) (numOf (r 4 0)) (by omega) (by omega) (by omega) (by omega), ref_step ((((numOf (r 0 0) * 256 + numOf (r 1 0)) * 256 + numOf (r 2 0)) * 256 + numOf (r 3 0)) * 256 + numOf (r 4 0)) (numOf (r 5 0)) (by omega) (by omega) (by omega) (by omega)]
theorem ref_no (nl : Bool) (N : Nat) (hN : N ≠ 6) (r : Nat → Nat → PV) (α : Type) (k : Int → Int → Option α) : ref09_Of nl N r k = k 0 11 := by
  unfold ref09_Of ref09_Of_T
  rw [show ((N : Int) != 6) = true from bne_iff_ne.2 (by omega), cond_true]
/-! ### the reference's Parse -/
def res (c : Nat) (k : Nat) : Int := bif decide (0 ≤ Lib.indexByte D c.toUInt8) && decide (Lib.indexByte D c.toUInt8 < (k : Int)) then Lib.indexByte D c.toUInt8 else -1
def rstep : Bool := (List.range 256).all fun c => (List.range 16).all fun k => (bif (e10 (k : Int) == (c : Int)) then (k : Int) else res c k) == res c (k + 1)
theorem rstep_ok : rstep = true := by kernel_rfl
def rlast : Bool := (List.range 256).all fun c => res c 16 == Lib.indexByte D c.toUInt8 && res c 0 == -1
theorem rlast_ok : rlast = true := by kernel_rfl
theorem res_step (c : UInt8) (k : Nat) (hk : k < 16) : (bif (e10 (k : Int) == ((c.toNat : Nat) : Int)) then (k : Int) else res c.toNat k) = res c.toNat (k + 1) := by
  have := List.all_eq_true.1 (List.all_eq_true.1 rstep_ok c.toNat (List.mem_range.2 c.toNat_lt)) k (List.mem_range.2 hk)
  exact eq_of_beq this
theorem res_last (c : UInt8) : res c.toNat 16 = Lib.indexByte D c ∧ res c.toNat 0 = -1 := by
  have := List.all_eq_true.1 rlast_ok c.toNat (List.mem_range.2 c.toNat_lt)
  rw [show c.toNat.toUInt8 = c from UInt8.ofNat_toNat] at this
  simpa using this
theorem inner {α : Type} (k0 : ByteArray → Int → Int → Int → Option α) (s : ByteArray) (w : Int) (i : Nat) (c : UInt8) (hi : i < s.size) (hc : bt s (i : Int) = ((c.toNat : Nat) : Int)) : ∀ (r m k : Nat), k + r = 16 → r < m → ref09_Parse_L2_v1_l0 k0 m s w (i : Int) (res c.toNat k) (k : Int) = k0 s w (i : Int) (Lib.indexByte D c)
  | _, 0, _, _, hm => by omega
  | 0, m + 1, k, hk, hm => by
    obtain rfl : k = 16 := by omega
    show ref09_Parse_L2_v1_s0 (ref09_Parse_L2_v1_l0 k0 m) k0 s w (i : Int) _ ((16 : Nat) : Int) = _
    unfold ref09_Parse_L2_v1_s0
    rw [dec_f (show ¬ ((16 : Nat) : Int) < 16 by omega), cond_false, (res_last c).1]
  | r + 1, m + 1, k, hk, hm => by
    have ih := inner k0 s w i c hi hc r m (k + 1) (by omega) (by omega)
    show ref09_Parse_L2_v1_s0 (ref09_Parse_L2_v1_l0 k0 m) k0 s w (i : Int) _ (k : Int) = _
    unfold ref09_Parse_L2_v1_s0
    rw [dec_t (show (k : Int) < 16 by omega), inb_t (show (0 : Int) ≤ (k : Int) by omega) (show (k : Int) < ((16 : Nat) : Int) by omega), inb_t (show (0 : Int) ≤ (i : Int) by omega) (show (i : Int) < ((s.size : Nat) : Int) by omega), cond_true, cond_true, cond_true, hc, i64_id (by omega) (by omega)]
    have hs := res_step c k (by omega)
    rw [← hs] at ih
    rw [show ((k + 1 : Nat) : Int) = (k : Int) + 1 by omega] at ih
    cases hb : (e10 (k : Int) == ((c.toNat : Nat) : Int)) with
    | true => rw [hb, cond_true] at ih; exact ih
    | false => rw [hb, cond_false] at ih; exact ih
theorem outer_end {α : Type} (k0 : Option α) (k1 : ByteArray → Int → Option α) (m : Nat) (s : ByteArray) (w : Int) : ref09_Parse_L0_l0 k0 k1 (m + 1) s w ((17 : Nat) : Int) = k1 s w := by
  show ref09_Parse_L0_s0 ref09_Parse_L2_v1 (ref09_Parse_L0_l0 k0 k1 m) k0 k1 s w ((17 : Nat) : Int) = _
  unfold ref09_Parse_L0_s0
  rw [dec_f (show ¬ ((17 : Nat) : Int) < 17 by omega), cond_false]
theorem outer_skip {α : Type} (k0 : Option α) (k1 : ByteArray → Int → Option α) (m i : Nat) (s : ByteArray) (w : Int) (hi : i < 17) (h3 : i % 3 = 2) : ref09_Parse_L0_l0 k0 k1 (m + 1) s w (i : Int) = ref09_Parse_L0_l0 k0 k1 m s w ((i + 1 : Nat) : Int) := by
  show ref09_Parse_L0_s0 ref09_Parse_L2_v1 (ref09_Parse_L0_l0 k0 k1 m) k0 k1 s w (i : Int) = _
  unfold ref09_Parse_L0_s0
  rw [dec_t (show (i : Int) < 17 by omega), cond_true, show ((i : Int).tmod 3 == 2) = true by rw [Int.tmod_eq_emod_of_nonneg (by omega), beq_iff_eq]; omega, cond_true, i64_id (by omega) (by omega)]
  rfl
theorem outer_dig {α : Type} (k0 : Option α) (k1 : ByteArray → Int → Option α) (m i : Nat) (s : ByteArray) (w : Int) (hi : i < 17) (hs : s.size = 17) (h3 : i % 3 ≠ 2) (c : UInt8) (hc : bt s (i : Int) = ((c.toNat : Nat) : Int)) (h0 : 0 ≤ w) (h1 : w < 281474976710656) : ref09_Parse_L0_l0 k0 k1 (m + 1) s w (i : Int) = bif decide (Lib.indexByte D c < 0) then k0 else ref09_Parse_L0_l0 k0 k1 m s (w * 16 + Lib.indexByte D c) ((i + 1 : Nat) : Int) := by
  show ref09_Parse_L0_s0 ref09_Parse_L2_v1 (ref09_Parse_L0_l0 k0 k1 m) k0 k1 s w (i : Int) = _
  unfold ref09_Parse_L0_s0
  rw [dec_t (show (i : Int) < 17 by omega), cond_true, show ((i : Int).tmod 3 == 2) = false by rw [Int.tmod_eq_emod_of_nonneg (by omega), beq_eq_false_iff_ne]; omega, cond_false]
  unfold ref09_Parse_L2_v1
  have hin := fun (q : ByteArray → Int → Int → Int → Option α) => inner q s w i c (by omega) hc 16 1152921504606846976 0 (by omega) (by omega)
  rw [(res_last c).2] at hin
  refine (hin _).trans ?_
  by_cases hb : Lib.indexByte D c < 0
  · rw [dec_t hb]; rfl
  · obtain ⟨n, hn, e, _⟩ := dig_ok c (by omega)
    rw [dec_f hb, cond_false, cond_false, e, i64_id (by omega) (by omega), u64_id (n := w * 16) (by omega) (by omega), u64_id (n := (n : Int)) (by omega) (by omega), u64_id (by omega) (by omega)]
    rfl
theorem outer1 (s : ByteArray) (hs : s.size = 17) (hb : ∀ i : Nat, i < 17 → ∃ c : UInt8, bt s (i : Int) = ((c.toNat : Nat) : Int)) : ∀ (r m i w : Nat), i + r = 17 → r < m → w < 16 ^ (i - i / 3) → (∀ (α : Type) (k0 : Option α) k1, ref09_Parse_L0_l0 k0 k1 m s (w : Int) (i : Int) = k0) ∨ ∃ w' : Nat, w' < 281474976710656 ∧ ∀ (α : Type) (k0 : Option α) k1, ref09_Parse_L0_l0 k0 k1 m s (w : Int) (i : Int) = k1 s (w' : Int)
  | _, 0, _, _, _, hm, _ => by omega
  | 0, m + 1, i, w, hi, hm, hw => by
    obtain rfl : i = 17 := by omega
    exact .inr ⟨w, by simpa using hw, fun α k0 k1 => outer_end k0 k1 m s w⟩
  | r + 1, m + 1, i, w, hi, hm, hw => by
    by_cases h3 : i % 3 = 2
    · have ih := outer1 s hs hb r m (i + 1) w (by omega) (by omega) (by rw [show i + 1 - (i + 1) / 3 = i - i / 3 by omega]; exact hw)
      rcases ih with ih | ⟨w', h1, ih⟩
      · exact .inl fun α k0 k1 => by rw [outer_skip k0 k1 m i s w (by omega) h3, ih]
      · exact .inr ⟨w', h1, fun α k0 k1 => by rw [outer_skip k0 k1 m i s w (by omega) h3, ih]⟩
    · obtain ⟨c, hc⟩ := hb i (by omega)
      have hp : 16 ^ (i - i / 3) ≤ 16 ^ 12 := Nat.pow_le_pow_right (by omega) (by omega)
      rw [show (16 : Nat) ^ 12 = 281474976710656 by decide] at hp
      have hd := fun (α : Type) (k0 : Option α) k1 => outer_dig k0 k1 m i s w (by omega) hs h3 c hc (by omega) (by omega)
      by_cases hn : Lib.indexByte D c < 0
      · exact .inl fun α k0 k1 => by rw [hd, dec_t hn, cond_true]
      · obtain ⟨n, hn1, e, _⟩ := dig_ok c (by omega)
        have hw2 : w * 16 + n < 16 ^ (i + 1 - (i + 1) / 3) := by
          rw [show i + 1 - (i + 1) / 3 = (i - i / 3) + 1 by omega, Nat.pow_succ]
          omega
        have ih := outer1 s hs hb r m (i + 1) (w * 16 + n) (by omega) (by omega) hw2
        rw [show ((w * 16 + n : Nat) : Int) = (w : Int) * 16 + (n : Int) by omega] at ih
        rcases ih with ih | ⟨w', h1, ih⟩
        · exact .inl fun α k0 k1 => by rw [hd, dec_f hn, cond_false, e, ih]
        · exact .inr ⟨w', h1, fun α k0 k1 => by rw [hd, dec_f hn, cond_false, e, ih]⟩
def hz (n : Nat → Nat) : Nat → Nat → Nat → Nat
  | _, w, 0 => w
  | i, w, r + 1 => bif Nat.beq (i % 3) 2 then hz n (i + 1) w r else hz n (i + 1) (w * 16 + n i) r
theorem outer2 (s : ByteArray) (hs : s.size = 17) (n : Nat → Nat) (hb : ∀ i : Nat, i < 17 → i % 3 ≠ 2 → n i < 16 ∧ bt s (i : Int) = (((H (n i)).toNat : Nat) : Int)) : ∀ (r m i w : Nat), i + r = 17 → r < m → w < 16 ^ (i - i / 3) → ∀ (α : Type) (k0 : Option α) k1, ref09_Parse_L0_l0 k0 k1 m s (w : Int) (i : Int) = k1 s ((hz n i w r : Nat) : Int)
  | _, 0, _, _, _, hm, _ => by omega
  | 0, m + 1, i, w, hi, hm, hw => by
    obtain rfl : i = 17 := by omega
    exact fun α k0 k1 => outer_end k0 k1 m s w
  | r + 1, m + 1, i, w, hi, hm, hw => by
    intro α k0 k1
    by_cases h3 : i % 3 = 2
    · have ih := outer2 s hs n hb r m (i + 1) w (by omega) (by omega) (by rw [show i + 1 - (i + 1) / 3 = i - i / 3 by omega]; exact hw) α k0 k1
      rw [outer_skip k0 k1 m i s w (by omega) h3, ih, hz, h3]
      rfl
    · obtain ⟨hn1, hc⟩ := hb i (by omega) h3
      have hp : 16 ^ (i - i / 3) ≤ 16 ^ 12 := Nat.pow_le_pow_right (by omega) (by omega)
      rw [show (16 : Nat) ^ 12 = 281474976710656 by decide] at hp
      have e := (undig_ok (n i) hn1).1
      have hw2 : w * 16 + n i < 16 ^ (i + 1 - (i + 1) / 3) := by
        rw [show i + 1 - (i + 1) / 3 = (i - i / 3) + 1 by omega, Nat.pow_succ]
        omega
      have ih := outer2 s hs n hb r m (i + 1) (w * 16 + n i) (by omega) (by omega) hw2 α k0 k1
      rw [show ((w * 16 + n i : Nat) : Int) = (w : Int) * 16 + (n i : Int) by omega] at ih
      rw [outer_dig k0 k1 m i s w (by omega) hs h3 _ hc (by omega) (by omega), e, dec_f (show ¬ (n i : Int) < 0 by omega), cond_false, ih, hz, show Nat.beq (i % 3) 2 = false by
        cases hq : Nat.beq (i % 3) 2 with
        | false => rfl
        | true => exact absurd (Nat.eq_of_beq_eq_true hq) h3, cond_false]
def nv (v : Nat) : Nat → Nat
  | 0 => b5 v / 16 | 1 => b5 v % 16 | 3 => b4 v / 16 | 4 => b4 v % 16 | 6 => b3 v / 16 | 7 => b3 v % 16 | 9 => b2 v / 16 | 10 => b2 v % 16 | 12 => b1 v / 16 | 13 => b1 v % 16 | 15 => b0' v / 16 | _ => b0' v % 16
theorem hz_nv (v : Nat) (hv : v < 281474976710656) : hz (nv v) 0 0 17 = v := by
  have e : hz (nv v) 0 0 17 = (((((((((((0 * 16 + b5 v / 16) * 16 + b5 v % 16) * 16 + b4 v / 16) * 16 + b4 v % 16) * 16 + b3 v / 16) * 16 + b3 v % 16) * 16 + b2 v / 16) * 16 + b2 v % 16) * 16 + b1 v / 16) * 16 + b1 v % 16) * 16 + b0' v / 16) * 16 + b0' v % 16 := by kernel_rfl
  rw [e]
  unfold b5 b4 b3 b2 b1 b0'
  omega
theorem and_hi (x : Nat) (hx : x < 18446744073709551616) : x &&& 18446744073709551600 = x / 16 * 16 := by
  apply Nat.eq_of_testBit_eq
  intro i
  rw [Nat.testBit_and, show (18446744073709551600 : Nat) = 2 ^ 4 * (2 ^ 60 - 1) by decide, Nat.testBit_two_pow_mul, Nat.testBit_two_pow_sub_one, show x / 16 * 16 = 2 ^ 4 * (x / 2 ^ 4) by omega, Nat.testBit_two_pow_mul, Nat.testBit_div_two_pow]
  by_cases h : i ≥ 4
  · rw [show i - 4 + 4 = i by omega]
    by_cases h2 : i - 4 < 60
    · simp [h, h2]
    · have : x.testBit i = false := Nat.testBit_lt_two_pow (Nat.lt_of_lt_of_le hx (by rw [show (18446744073709551616 : Nat) = 2 ^ 64 by decide]; exact Nat.pow_le_pow_right (by omega) (by omega)))
      simp [this]
  · simp [h]
theorem andNot15 (x : Nat) (hx : x < 18446744073709551616) : bits .andNot .u64 (x : Int) 15 = ((x / 16 * 16 : Nat) : Int) := by
  show IntKind.u64.wrap ((BitVec.ofInt 64 (x : Int) &&& ~~~BitVec.ofInt 64 15).toNat : Int) = _
  have h1 : (BitVec.ofInt 64 15).toNat = 15 := by decide
  have h2 : (BitVec.ofInt 64 (x : Int)).toNat = x := by
    rw [BitVec.ofInt_natCast, BitVec.toNat_ofNat]; exact Nat.mod_eq_of_lt (by omega)
  rw [BitVec.toNat_and, BitVec.toNat_not, h2, h1, show 2 ^ 64 - 1 - 15 = 18446744073709551600 by decide, and_hi x hx]
  exact u64_id (by omega) (by omega)
theorem ref_parse_text (v : Nat) (hv : v < 281474976710656) (α : Type) (k : Int → Int → Option α) : ref09_Parse ⟨(tl v).toArray⟩ k = k (v : Int) 0 := by
  have h := outer2 ⟨(tl v).toArray⟩ rfl (nv v) (fun i hi h3 => by
    match i, hi, h3 with
    | 0, _, _ => exact ⟨by show b5 v / 16 < 16; unfold b5; omega, rfl⟩
    | 1, _, _ => exact ⟨by show b5 v % 16 < 16; unfold b5; omega, rfl⟩
    | 3, _, _ => exact ⟨by show b4 v / 16 < 16; unfold b4; omega, rfl⟩
    | 4, _, _ => exact ⟨by show b4 v % 16 < 16; unfold b4; omega, rfl⟩
    | 6, _, _ => exact ⟨by show b3 v / 16 < 16; unfold b3; omega, rfl⟩
    | 7, _, _ => exact ⟨by show b3 v % 16 < 16; unfold b3; omega, rfl⟩
    | 9, _, _ => exact ⟨by show b2 v / 16 < 16; unfold b2; omega, rfl⟩
    | 10, _, _ => exact ⟨by show b2 v % 16 < 16; unfold b2; omega, rfl⟩
    | 12, _, _ => exact ⟨by show b1 v / 16 < 16; unfold b1; omega, rfl⟩
    | 13, _, _ => exact ⟨by show b1 v % 16 < 16; unfold b1; omega, rfl⟩
    | 15, _, _ => exact ⟨by show b0' v / 16 < 16; unfold b0'; omega, rfl⟩
    | 16, _, _ => exact ⟨by show b0' v % 16 < 16; unfold b0'; omega, rfl⟩
    | 2, _, h3 => exact absurd rfl h3
    | 5, _, h3 => exact absurd rfl h3
    | 8, _, h3 => exact absurd rfl h3
    | 11, _, h3 => exact absurd rfl h3
    | 14, _, h3 => exact absurd rfl h3
    | n + 17, h, _ => exact absurd h (by omega)) 17 1152921504606846976 0 0 (by omega) (by omega) (by omega) α
  rw [hz_nv v hv] at h
  unfold ref09_Parse ref09_Parse_T
  rw [show (((⟨(tl v).toArray⟩ : ByteArray).size : Int) != 17) = false from rfl, cond_false]
  refine (h _ _).trans ?_
  rw [ref_text v hv, beq_self_eq_true]
  rfl
theorem ref_parse_cases (s : ByteArray) : (∀ (α : Type) (k : Int → Int → Option α), ref09_Parse s k = k 0 11) ∨ ∃ v : Nat, v < 281474976710656 ∧ s.data.toList = tl v := by
  by_cases hs : s.size = 17
  rotate_left
  · refine .inl fun α k => ?_
    unfold ref09_Parse ref09_Parse_T
    rw [show ((s.size : Int) != 17) = true from bne_iff_ne.2 (by omega), cond_true]
  have ho : ∀ (α : Type) (k : Int → Int → Option α), ref09_Parse s k = ref09_Parse_L0_l0 (k 0 11) (fun r_2 r_3 => ref09_Text r_3 (fun r_4 => bif !(r_4.toList == r_2.toList) then k 0 11 else k r_3 0)) 1152921504606846976 s ((0 : Nat) : Int) ((0 : Nat) : Int) := by
    intro α k
    unfold ref09_Parse ref09_Parse_T
    rw [show ((s.size : Int) != 17) = false by rw [hs]; rfl, cond_false]
    rfl
  rcases outer1 s hs (fun i hi => by
    unfold bt
    rw [dif_pos (show (i : Int).toNat < s.size by rw [Int.toNat_natCast]; omega)]
    exact ⟨_, rfl⟩) 17 1152921504606846976 0 0 (by omega) (by omega) (by omega) with h | ⟨w, hw, h⟩
  · exact .inl fun α k => by rw [ho, h]
  · by_cases he : s.data.toList = tl w
    · exact .inr ⟨w, hw, he⟩
    · refine .inl fun α k => ?_
      rw [ho, h, ref_text w hw, Lib.toList_data, Lib.toList_data, show ((⟨(tl w).toArray⟩ : ByteArray).data.toList == s.data.toList) = false from beq_eq_false_iff_ne.2 fun e => he e.symm]
      rfl
theorem parse_eq (s : ByteArray) (hs : s.size ≤ 100) : ∃ v e : Int, (∀ (α : Type) (k : Int → Int → Option α), mac_Parse s k = k v e) ∧ ∀ (α : Type) (k : Int → Int → Option α), ref09_Parse s k = k v e := by
  by_cases h : ∃ v : Nat, v < 281474976710656 ∧ s.data.toList = tl v
  · obtain ⟨v, hv, e⟩ := h
    obtain rfl := ba_ext e
    exact ⟨v, 0, fun α k => parse_text v hv α k, fun α k => ref_parse_text v hv α k⟩
  · refine ⟨0, 11, ?_, ?_⟩
    · rcases parse_cases s hs with h1 | ⟨v, hv, e, _⟩
      · exact h1
      · exact absurd ⟨v, hv, e⟩ h
    · rcases ref_parse_cases s with h1 | ⟨v, hv, e⟩
      · exact h1
      · exact absurd ⟨v, hv, e⟩ h
theorem of_eq (nl nl' : Bool) (N : Nat) (f : Nat → Nat → PV) (hb : ∀ j, j < N → 0 ≤ numOf (f j 0) ∧ numOf (f j 0) ≤ 255) : ∃ v e : Int, (∀ (α : Type) (k : Int → Int → Option α), mac_Of nl N f k = k v e) ∧ ∀ (α : Type) (k : Int → Int → Option α), ref09_Of nl' N f k = k v e := by
  by_cases h : N = 6
  · subst h
    exact ⟨_, _, fun α k => mac_of nl f hb α k, fun α k => ref_of nl' f hb α k⟩
  · exact ⟨_, _, fun α k => mac_no nl N h f α k, fun α k => ref_no nl' N h f α k⟩
theorem group_eq (a : Int) (ha : 0 ≤ a) : ∃ b : Bool, (∀ (α : Type) (k : Bool → Option α), mac_Group a k = k b) ∧ ∀ (α : Type) (k : Bool → Option α), ref09_Group a k = k b := by
  unfold mac_Group mac_Group_T ref09_Group ref09_Group_T
  rw [shr48 ha]
  cases decide (a < 281474976710656) <;> exact ⟨_, fun _ _ => rfl, fun _ _ => rfl⟩
theorem text_eq (a : Int) (ha : 0 ≤ a) : ∃ b : ByteArray, (∀ (α : Type) (k : ByteArray → Option α), mac_Text a k = k b) ∧ ∀ (α : Type) (k : ByteArray → Option α), ref09_Text a k = k b := by
  by_cases h : a < 281474976710656
  · obtain ⟨X, rfl⟩ : ∃ X : Nat, a = (X : Int) := ⟨a.toNat, by omega⟩
    exact ⟨_, fun α k => text_ex X (by omega) α k, fun α k => ref_text X (by omega) α k⟩
  · refine ⟨⟨#[]⟩, fun α k => ?_, fun α k => ?_⟩
    · unfold mac_Text mac_Text_T
      rw [shr48 ha, dec_f h]
      rfl
    · unfold ref09_Text ref09_Text_T
      rw [dec_f h]
      rfl
theorem kept_eq (a : Int) (ha : 0 ≤ a) (hb : a ≤ 18446744073709551615) (α : Type) (k : Bool → Option α) : ref09_Kept a k = k ((bits .andNot .u64 a 15) == 1652522221568) := by
  obtain ⟨X, rfl⟩ : ∃ X : Nat, a = (X : Int) := ⟨a.toNat, by omega⟩
  unfold ref09_Kept ref09_Kept_T
  rw [andNot15 X (by omega)]
  by_cases h1 : (X : Int) ≥ 1652522221568
  · rw [dec_t h1, cond_true]
    by_cases h2 : (X : Int) ≤ 1652522221583
    · rw [dec_t h2, show (((X / 16 * 16 : Nat) : Int) == 1652522221568) = true from beq_iff_eq.2 (by omega)]
    · rw [dec_f h2, show (((X / 16 * 16 : Nat) : Int) == 1652522221568) = false from beq_eq_false_iff_ne.2 (by omega)]
  · rw [dec_f h1, cond_false, show (((X / 16 * 16 : Nat) : Int) == 1652522221568) = false from beq_eq_false_iff_ne.2 (by omega)]
theorem main {α : Type} (a_1 : Int) (a_2 : Bool) (a_3 : Nat) (a_4 : Nat → Nat → PV) (a_5 : ByteArray) (h_1 : PvOk (.val (.int .u64 a_1))) (h_2 : PvOk (.sl a_2 (.int .u8 .nil) 1 a_3 a_4)) (k_2 : RowK (.int .u8 .nil) a_3 a_4) (h_5 : PvOk (.val (.string a_5))) (k0 k1 : Option α) : law09_MacTells a_1 a_2 a_3 a_4 a_5 k0 k1 = k0 := by
  have ha := pv_u64 h_1
  unfold law09_MacTells law09_MacTells_T
  by_cases hn : (a_3 : Int) > 100
  · rw [dec_t hn, cond_true]
  by_cases hs : (a_5.size : Int) > 100
  · rw [dec_f hn, dec_t hs, cond_true, cond_false]
  rw [dec_f hn, dec_f hs, cond_false, cond_false, Nat.zero_add, bnd (show a_3 ≤ 200000 by omega), cond_true, catf_zero]
  obtain ⟨v, e, o1, o2⟩ := of_eq false a_2 a_3 a_4 (fun j hj => byte_of h_2 k_2 j hj)
  obtain ⟨w, f, p1, p2⟩ := parse_eq a_5 (by omega)
  obtain ⟨b, g1, g2⟩ := group_eq a_1 ha.1
  obtain ⟨t, t1, t2⟩ := text_eq a_1 ha.1
  have he : (e28 a_1).toList = (strOf 6 (e11 a_1)).toList := by
    unfold e28 e11
    rw [shr0]
    rfl
  rw [o1, o2, p1, p2, shr48 ha.1, beq_self_eq_true, cond_true, g1, g2, beq_self_eq_true, cond_true, kept_eq a_1 ha.1 ha.2, beq_self_eq_true, cond_true, he, beq_self_eq_true, cond_true, t1, t2]
  simp only [beq_self_eq_true, cond_true]
end Go.Proofs.YtampnnhdgnhjaaaDoor.MacTells

/- Lemmas for ParseBlanks: what its functions come to. -/
import Derived.Test.YtijabmpcicddbaaDoorParseBlanksU
import Derived.Test.YtijabmpcicddbaaDoorVe35
set_option linter.unusedVariables false
set_option linter.unusedSimpArgs false
set_option maxHeartbeats 1000000
namespace Go.Proofs.YtijabmpcicddbaaDoor.ParseBlanks
open Go.Ve
theorem bnd {n : Nat} (h : n ≤ 1000000) : Nat.ble ((n + 1) * 16) bound = true := ble_true (by unfold bound; omega)
theorem cutP_loop (N : Nat) (row : Nat → Nat → PV) (L : List (List UInt8)) (hL : TL N row L) (hN : N ≤ 1000000) : ∀ (d i n : Nat) (nl : Bool) (f : Nat → Nat → PV) (A : List (List UInt8)) (fuel : Nat), i + d = N → TL n f A → n ≤ i → d < fuel →
    ∃ nl' n' f', TL n' f' (A ++ ne (L.drop i)) ∧ ∀ (α : Type) (k0 : Bool → Nat → (Nat → Nat → PV) → Option α), words_Cut_L0_l0 k0 fuel (N : Int) (i : Int) nl n f N row = k0 nl' n' f'
  | 0, i, n, nl, f, A, fuel + 1, hi, hA, hn, hf => by
    obtain rfl : i = N := by omega
    refine ⟨nl, n, f, ?_, fun α k0 => ?_⟩
    · rw [List.drop_eq_nil_of_le (by rw [hL.1]; exact Nat.le_refl _), ne_nil, List.append_nil]; exact hA
    · show words_Cut_L0_s0 _ k0 (i : Int) (i : Int) nl n f i row = _
      unfold words_Cut_L0_s0
      rw [dec_f (Int.lt_irrefl _), cond_false]
  | d + 1, i, n, nl, f, A, fuel + 1, hi, hA, hn, hf => by
    have hlt : i < L.length := by rw [hL.1]; omega
    have hd : L.drop i = L[i] :: L.drop (i + 1) := by rw [List.drop_eq_getElem_cons hlt]
    have hx := hL.2 i hlt
    have step : ∀ (α : Type) (k0 : Bool → Nat → (Nat → Nat → PV) → Option α), words_Cut_L0_l0 k0 (fuel + 1) (N : Int) (i : Int) nl n f N row = bif !(L[i]).isEmpty then words_Cut_L0_l0 k0 fuel (N : Int) ((i + 1 : Nat) : Int) (nl && false) (n + 1) (catf n f (rowOf 1 [.val (.string (textOf (row i 0)))])) N row else words_Cut_L0_l0 k0 fuel (N : Int) ((i + 1 : Nat) : Int) nl n f N row := by
      intro α k0
      show words_Cut_L0_s0 _ k0 (N : Int) (i : Int) nl n f N row = _
      unfold words_Cut_L0_s0
      rw [dec_t (show (i : Int) < (N : Int) by omega), inb_t (show (0 : Int) ≤ (i : Int) by omega) (show (i : Int) < (N : Int) by omega), cond_true, cond_true, Int.toNat_natCast, beq_nil, hx, bnd (by omega), cond_true, i64_id (by omega) (by omega)]
      rfl
    cases he : (L[i]).isEmpty with
    | true =>
      obtain ⟨nl', n', f', h1, h2⟩ := cutP_loop N row L hL hN d (i + 1) n nl f A fuel (by omega) hA (by omega) (by omega)
      refine ⟨nl', n', f', ?_, fun α k0 => ?_⟩
      · rw [hd, ne_cons, he, cond_true]; exact h1
      · rw [step, he]; exact h2 α k0
    | false =>
      have hs := hA.snoc (textOf (row i 0))
      rw [hx] at hs
      obtain ⟨nl', n', f', h1, h2⟩ := cutP_loop N row L hL hN d (i + 1) (n + 1) (nl && false) _ (A ++ [L[i]]) fuel (by omega) hs (by omega) (by omega)
      refine ⟨nl', n', f', ?_, fun α k0 => ?_⟩
      · rw [hd, ne_cons, he, cond_false]
        rw [List.append_assoc] at h1
        exact h1
      · rw [step, he]; exact h2 α k0
theorem cutP (s : ByteArray) (hs : s.size ≤ 900000) (g : Nat → Nat → PV) : ∃ nl n f, TL n f (words s.data.toList) ∧ ∀ (α : Type) (k0 : Bool → Nat → (Nat → Nat → PV) → Option α), words_Cut_L0 ((splitN s ⟨#[32]⟩ : Nat) : Int) g (splitN s ⟨#[32]⟩) (splitRow s ⟨#[32]⟩) k0 = k0 nl n f := by
  have hN := splitN_le s
  obtain ⟨nl, n, f, h1, h2⟩ := cutP_loop (splitN s ⟨#[32]⟩) (splitRow s ⟨#[32]⟩) _ (TL.split s ⟨#[32]⟩) (by omega) (splitN s ⟨#[32]⟩) 0 0 true g [] 18446744073709551616 (by omega) (TL.nil g) (Nat.le_refl 0) (by omega)
  refine ⟨nl, n, f, ?_, fun α k0 => h2 α k0⟩
  rw [List.nil_append, List.drop_zero, ne_split] at h1
  exact h1
def Good' (L : List (List UInt8)) : Prop := ∀ w ∈ L, w ≠ []
theorem joinW_app (A : List (List UInt8)) (x : List UInt8) : joinW (A ++ [x]) = bif A.isEmpty then x else joinW A ++ 32 :: x := by
  cases A with
  | nil => exact joinW_one x
  | cons y A => exact joinW_snoc (y :: A) x (by simp)
theorem joinW_empty {A : List (List UInt8)} (h : Good' A) : (joinW A).isEmpty = A.isEmpty := by
  match A, h with
  | [], _ => rfl
  | [x], h =>
    rw [joinW_one]
    have := h x (by simp)
    cases x with
    | nil => exact absurd rfl this
    | cons => rfl
  | x :: y :: A, h =>
    rw [joinW_two]
    cases x <;> rfl
theorem u64_div (u : Nat) (hu : u < 18446744073709551616) : IntKind.u64.wrap ((u : Int).tdiv 10) = ((u / 10 : Nat) : Int) := by
  have : (u : Int).tdiv 10 = ((u / 10 : Nat) : Int) := by rw [Int.tdiv_eq_ediv_of_nonneg (by omega)]; omega
  rw [this, u64_id (by omega) (by omega)]
theorem dec_len (m u : Nat) (h : u < 10 ^ (m + 1)) : (Lib.decDigits u).length ≤ m + 1 := by
  induction m generalizing u with
  | zero => rw [Lib.decDigits, dif_pos (by omega)]; exact Nat.le_refl _
  | succ m ih =>
    rw [Lib.decDigits]
    split
    · simp
    · have := ih (u / 10) (by rw [Nat.pow_succ] at h; omega)
      simp only [List.length_append, List.length_singleton]
      omega
def allD (l : List UInt8) : Bool := l.all fun c => decide (48 ≤ c.toNat) && decide (c.toNat ≤ 57)
def foldV (v : Nat) (l : List UInt8) : Nat := l.foldl (fun a c => a * 10 + (c.toNat - 48)) v
theorem dec_all (u : Nat) : allD (Lib.decDigits u) = true := by
  induction u using Nat.strongRecOn with
  | _ u ih =>
    have hd : ∀ d, d < 10 → (decide (48 ≤ (UInt8.ofNat (48 + d)).toNat) && decide ((UInt8.ofNat (48 + d)).toNat ≤ 57)) = true := fun d h => by
      rw [u8_digit h, dec_t (by omega), dec_t (by omega)]; rfl
    rw [Lib.decDigits]
    split
    · rename_i h
      show ((decide (48 ≤ (UInt8.ofNat (48 + u)).toNat) && decide ((UInt8.ofNat (48 + u)).toNat ≤ 57)) && true) = true
      rw [hd u h]; rfl
    · rename_i h
      have h1 := ih (u / 10) (by omega)
      unfold allD at *
      rw [List.all_append, h1]
      show (true && ((decide (48 ≤ (UInt8.ofNat (48 + u % 10)).toNat) && decide ((UInt8.ofNat (48 + u % 10)).toNat ≤ 57)) && true)) = true
      rw [hd _ (by omega)]; rfl
def H (n : Nat) : UInt8 := ([48, 49, 50, 51, 52, 53, 54, 55, 56, 57, 97, 98, 99, 100, 101, 102] : List UInt8).getD n 0
def pa (B : Int) : ByteArray := (⟨#[48, 49, 50, 51, 52, 53, 54, 55, 56, 57, 97, 98, 99, 100, 101, 102]⟩ : ByteArray).extract ((shrI .u8 B 4).toNat) (((shrI .u8 B 4).toNat) + (((IntKind.u8.wrap ((shrI .u8 B 4) + 1)).toNat) - ((shrI .u8 B 4).toNat)))
def pb (B : Int) : ByteArray := (⟨#[48, 49, 50, 51, 52, 53, 54, 55, 56, 57, 97, 98, 99, 100, 101, 102]⟩ : ByteArray).extract ((bits .and .u8 B 15).toNat) (((bits .and .u8 B 15).toNat) + (((IntKind.u8.wrap ((bits .and .u8 B 15) + 1)).toNat) - ((bits .and .u8 B 15).toNat)))
def tst (n : Nat) : Bool := inb (IntKind.u8.wrap ((shrI .u8 (n : Int) 4) + 1)) 17 && ((decide (0 ≤ shrI .u8 (n : Int) 4) && decide (shrI .u8 (n : Int) 4 ≤ IntKind.u8.wrap ((shrI .u8 (n : Int) 4) + 1))) && (inb (IntKind.u8.wrap ((bits .and .u8 (n : Int) 15) + 1)) 17 && ((decide (0 ≤ bits .and .u8 (n : Int) 15) && decide (bits .and .u8 (n : Int) 15 ≤ IntKind.u8.wrap ((bits .and .u8 (n : Int) 15) + 1))) && (Nat.ble ((pa n).size + (pb n).size) 4611686018427387904 && (pa n ++ pb n).data.toList == [H (n / 16), H (n % 16)]))))
theorem all256 : ((List.range 256).all tst) = true := by kernel_rfl
structure Byte (B : Int) (n : Nat) : Prop where
  c1 : inb (IntKind.u8.wrap ((shrI .u8 B 4) + 1)) 17 = true
  c2 : (decide (0 ≤ shrI .u8 B 4) && decide (shrI .u8 B 4 ≤ IntKind.u8.wrap ((shrI .u8 B 4) + 1))) = true
  c3 : inb (IntKind.u8.wrap ((bits .and .u8 B 15) + 1)) 17 = true
  c4 : (decide (0 ≤ bits .and .u8 B 15) && decide (bits .and .u8 B 15 ≤ IntKind.u8.wrap ((bits .and .u8 B 15) + 1))) = true
  c5 : Nat.ble ((pa B).size + (pb B).size) 4611686018427387904 = true
  p : (pa B ++ pb B).data.toList = [H (n / 16), H (n % 16)]
theorem byte_ok {B : Int} {n : Nat} (e : B = (n : Int)) (h : n < 256) : Byte B n := by
  subst e
  have := List.all_eq_true.1 all256 n (List.mem_range.2 h)
  simp only [tst, Bool.and_eq_true] at this
  obtain ⟨h1, h2, h3, h4, h5, h6⟩ := this
  exact ⟨h1, by simpa using h2, h3, by simpa using h4, h5, by simpa using h6⟩
def b5 (X : Nat) : Nat := X / 1099511627776 % 256
def b4 (X : Nat) : Nat := X / 4294967296 % 256
def b3 (X : Nat) : Nat := X / 16777216 % 256
def b2 (X : Nat) : Nat := X / 65536 % 256
def b1 (X : Nat) : Nat := X / 256 % 256
def b0' (X : Nat) : Nat := X % 256
def tl (X : Nat) : List UInt8 := [H (b5 X / 16), H (b5 X % 16), 58, H (b4 X / 16), H (b4 X % 16), 58, H (b3 X / 16), H (b3 X % 16), 58, H (b2 X / 16), H (b2 X % 16), 58, H (b1 X / 16), H (b1 X % 16), 58, H (b0' X / 16), H (b0' X % 16)]
theorem w40 (X : Nat) : IntKind.u8.wrap (shrI .u64 (X : Int) 40) = ((b5 X : Nat) : Int) := by rw [b40]; unfold b5; omega
theorem w32 (X : Nat) : IntKind.u8.wrap (shrI .u64 (X : Int) 32) = ((b4 X : Nat) : Int) := by rw [b32]; unfold b4; omega
theorem w24 (X : Nat) : IntKind.u8.wrap (shrI .u64 (X : Int) 24) = ((b3 X : Nat) : Int) := by rw [b24]; unfold b3; omega
theorem w16 (X : Nat) : IntKind.u8.wrap (shrI .u64 (X : Int) 16) = ((b2 X : Nat) : Int) := by rw [b16]; unfold b2; omega
theorem w8 (X : Nat) : IntKind.u8.wrap (shrI .u64 (X : Int) 8) = ((b1 X : Nat) : Int) := by rw [b8]; unfold b1; omega
theorem w0 (X : Nat) : IntKind.u8.wrap (shrI .u64 (X : Int) 0) = ((b0' X : Nat) : Int) := by rw [Ve.b0]; unfold b0'; omega
theorem text_ex (X : Nat) (hX : X < 281474976710656) (α : Type) (k0 : ByteArray → Option α) : mac_Text (X : Int) k0 = k0 ⟨(tl X).toArray⟩ := by
  have f5 := byte_ok (w40 X) (by unfold b5; omega)
  have f4 := byte_ok (w32 X) (by unfold b4; omega)
  have f3 := byte_ok (w24 X) (by unfold b3; omega)
  have f2 := byte_ok (w16 X) (by unfold b2; omega)
  have f1 := byte_ok (w8 X) (by unfold b1; omega)
  have f0 := byte_ok (w0 X) (by unfold b0'; omega)
  have s5 : Nat.ble ((e2 X).size + (e3 X).size) 4611686018427387904 = true := f5.c5
  have s4 : Nat.ble ((e4 X).size + (e5 X).size) 4611686018427387904 = true := f4.c5
  have s3 : Nat.ble ((e7 X).size + (e8 X).size) 4611686018427387904 = true := f3.c5
  have s2 : Nat.ble ((e9 X).size + (e10 X).size) 4611686018427387904 = true := f2.c5
  have s1 : Nat.ble ((e12 X).size + (e13 X).size) 4611686018427387904 = true := f1.c5
  have s0 : Nat.ble ((e14 X).size + (e15 X).size) 4611686018427387904 = true := f0.c5
  have p5 : ((e2 X) ++ (e3 X)).data.toList = [H (b5 X / 16), H (b5 X % 16)] := f5.p
  have p4 : ((e4 X) ++ (e5 X)).data.toList = [H (b4 X / 16), H (b4 X % 16)] := f4.p
  have p3 : ((e7 X) ++ (e8 X)).data.toList = [H (b3 X / 16), H (b3 X % 16)] := f3.p
  have p2 : ((e9 X) ++ (e10 X)).data.toList = [H (b2 X / 16), H (b2 X % 16)] := f2.p
  have p1 : ((e12 X) ++ (e13 X)).data.toList = [H (b1 X / 16), H (b1 X % 16)] := f1.p
  have p0 : ((e14 X) ++ (e15 X)).data.toList = [H (b0' X / 16), H (b0' X % 16)] := f0.p
  have hrow : (rowL 6 (e16 X)).map (·.data.toList) = [((e2 X) ++ (e3 X)).data.toList, ((e4 X) ++ (e5 X)).data.toList, ((e7 X) ++ (e8 X)).data.toList, ((e9 X) ++ (e10 X)).data.toList, ((e12 X) ++ (e13 X)).data.toList, ((e14 X) ++ (e15 X)).data.toList] := by kernel_rfl
  rw [p5, p4, p3, p2, p1, p0] at hrow
  have hj : Lib.join ((rowL 6 (e16 X)).map (·.data.toList)) (⟨#[58]⟩ : ByteArray).data.toList = tl X := by rw [hrow]; rfl
  have hok : joinOk 6 (e16 X) (⟨#[58]⟩ : ByteArray) = true := by unfold joinOk; rw [hj]; rfl
  have hs : joinS 6 (e16 X) (⟨#[58]⟩ : ByteArray) = ⟨(tl X).toArray⟩ := by unfold joinS; rw [hj]
  unfold mac_Text mac_Text_T
  rw [shr48 (by omega), dec_t (show (X : Int) < 281474976710656 by omega)]
  rw [f5.c1, f5.c2, f5.c3, f5.c4, s5, f4.c1, f4.c2, f4.c3, f4.c4, s4, f3.c1, f3.c2, f3.c3, f3.c4, s3, f2.c1, f2.c2, f2.c3, f2.c4, s2, f1.c1, f1.c2, f1.c3, f1.c4, s1, f0.c1, f0.c2, f0.c3, f0.c4, s0, hok, hs]
  rfl
def D : List UInt8 := (⟨#[48, 49, 50, 51, 52, 53, 54, 55, 56, 57, 97, 98, 99, 100, 101, 102]⟩ : ByteArray).data.toList
def hv (p : ByteArray) (t : Int) : Int := Lib.indexByte D (bt p t).toNat.toUInt8
def gp (p : ByteArray) : Bool := p.size == 2 && (decide (0 ≤ hv p 0) && decide (0 ≤ hv p 1))
def vp (p : ByteArray) : Int := IntKind.u8.wrap (bits .or .i64 (shlI .i64 (hv p 0) 4) (hv p 1))
def dig (c : Nat) : Bool := Lib.indexByte D c.toUInt8 == -1 || (decide (0 ≤ Lib.indexByte D c.toUInt8) && (decide (Lib.indexByte D c.toUInt8 < 16) && H (Lib.indexByte D c.toUInt8).toNat == c.toUInt8))
theorem dig_all : ((List.range 256).all dig) = true := by kernel_rfl
theorem dig_ok (c : UInt8) (h : 0 ≤ Lib.indexByte D c) : ∃ n : Nat, n < 16 ∧ Lib.indexByte D c = (n : Int) ∧ c = H n := by
  have e : c.toNat.toUInt8 = c := UInt8.ofNat_toNat
  have := List.all_eq_true.1 dig_all c.toNat (List.mem_range.2 c.toNat_lt)
  simp only [dig, e, Bool.or_eq_true, Bool.and_eq_true, beq_iff_eq, decide_eq_true_eq] at this
  rcases this with h1 | ⟨h1, h2, h3⟩
  · omega
  · exact ⟨(Lib.indexByte D c).toNat, by omega, by omega, h3.symm⟩
def undig (n : Nat) : Bool := Lib.indexByte D (H n) == (n : Int) && !(H n == 58)
theorem undig_all : ((List.range 16).all undig) = true := by kernel_rfl
theorem undig_ok (n : Nat) (h : n < 16) : Lib.indexByte D (H n) = (n : Int) ∧ H n ≠ 58 := by
  have := List.all_eq_true.1 undig_all n (List.mem_range.2 h)
  simpa [undig] using this
def twod : Bool := (List.range 16).all fun n => (List.range 16).all fun m => IntKind.u8.wrap (bits .or .i64 (shlI .i64 (n : Int) 4) (m : Int)) == ((n * 16 + m : Nat) : Int)
theorem twod_all : twod = true := by kernel_rfl
theorem twod_ok (n m : Nat) (hn : n < 16) (hm : m < 16) : IntKind.u8.wrap (bits .or .i64 (shlI .i64 (n : Int) 4) (m : Int)) = ((n * 16 + m : Nat) : Int) := by
  have := List.all_eq_true.1 (List.all_eq_true.1 twod_all n (List.mem_range.2 hn)) m (List.mem_range.2 hm)
  simpa using this
theorem bt0 (x y : UInt8) : (bt ⟨#[x, y]⟩ 0).toNat.toUInt8 = x := by
  show (((x.toNat : Int)).toNat).toUInt8 = x
  rw [Int.toNat_natCast]
  exact UInt8.ofNat_toNat
theorem bt1 (x y : UInt8) : (bt ⟨#[x, y]⟩ 1).toNat.toUInt8 = y := by
  show (((y.toNat : Int)).toNat).toUInt8 = y
  rw [Int.toNat_natCast]
  exact UInt8.ofNat_toNat
theorem gp_of {n m : Nat} (hn : n < 16) (hm : m < 16) : gp ⟨#[H n, H m]⟩ = true ∧ vp ⟨#[H n, H m]⟩ = ((n * 16 + m : Nat) : Int) := by
  have q0 : hv ⟨#[H n, H m]⟩ 0 = (n : Int) := by unfold hv; rw [bt0]; exact (undig_ok n hn).1
  have q1 : hv ⟨#[H n, H m]⟩ 1 = (m : Int) := by unfold hv; rw [bt1]; exact (undig_ok m hm).1
  constructor
  · unfold gp
    rw [q0, q1, dec_t (by omega), dec_t (by omega)]
    rfl
  · unfold vp
    rw [q0, q1, twod_ok n m hn hm]
theorem of_gp {p : ByteArray} (h : gp p = true) : ∃ n m : Nat, n < 16 ∧ m < 16 ∧ p = ⟨#[H n, H m]⟩ := by
  simp only [gp, Bool.and_eq_true, beq_iff_eq, decide_eq_true_eq] at h
  obtain ⟨h1, h2, h3⟩ := h
  obtain ⟨x, y, rfl⟩ : ∃ x y, p = ⟨#[x, y]⟩ := by
    obtain ⟨⟨l⟩⟩ := p
    match l, h1 with
    | [x, y], _ => exact ⟨x, y, rfl⟩
  unfold hv at h2 h3
  rw [bt0] at h2
  rw [bt1] at h3
  obtain ⟨n, hn, _, rfl⟩ := dig_ok x h2
  obtain ⟨m, hm, _, rfl⟩ := dig_ok y h3
  exact ⟨n, m, hn, hm, rfl⟩
theorem bndM {n : Nat} (h : n ≤ 200000) : Nat.ble (n * 1) bound = true := ble_true (by unfold bound; omega)
theorem e5_hv (row : Nat → Nat → PV) (i : Nat) : e20 row (i : Int) = hv (textOf (row i 0)) 0 := by unfold e20; rw [Int.toNat_natCast]; rfl
theorem e6_hv (row : Nat → Nat → PV) (i : Nat) : e21 row (i : Int) = hv (textOf (row i 0)) 1 := by unfold e21; rw [Int.toNat_natCast]; rfl
theorem e7_vp (row : Nat → Nat → PV) (i : Nat) : e22 row (i : Int) = rowOf 1 [.val (.int .u8 (vp (textOf (row i 0))))] := by unfold e22; rw [e5_hv, e6_hv]; rfl
theorem step_end {α : Type} (k0 : Option α) (k1 : Bool → Nat → (Nat → Nat → PV) → Option α) (m N n : Nat) (nl : Bool) (f row : Nat → Nat → PV) : mac_Parse_L0_l0 k0 k1 (m + 1) (N : Int) (N : Int) nl n f N row = k1 nl n f := by
  show mac_Parse_L0_s0 _ k0 k1 (N : Int) (N : Int) nl n f N row = _
  unfold mac_Parse_L0_s0
  rw [dec_f (Int.lt_irrefl _), cond_false]
theorem step_bad {α : Type} (k0 : Option α) (k1 : Bool → Nat → (Nat → Nat → PV) → Option α) (m N i n : Nat) (nl : Bool) (f row : Nat → Nat → PV) (hi : i < N) (hb : gp (textOf (row i 0)) = false) : mac_Parse_L0_l0 k0 k1 (m + 1) (N : Int) (i : Int) nl n f N row = k0 := by
  show mac_Parse_L0_s0 _ k0 k1 (N : Int) (i : Int) nl n f N row = _
  unfold mac_Parse_L0_s0
  rw [dec_t (show (i : Int) < (N : Int) by omega), inb_t (show (0 : Int) ≤ (i : Int) by omega) (show (i : Int) < (N : Int) by omega), cond_true, cond_true, e5_hv, e6_hv, Int.toNat_natCast]
  unfold gp at hb
  generalize textOf (row i 0) = p at *
  by_cases h2 : p.size = 2
  · rw [h2, show (((2 : Nat) : Int) != 2) = false from rfl, cond_false, inb_t (show (0 : Int) ≤ 0 by omega) (show (0 : Int) < ((2 : Nat) : Int) by omega), inb_t (show (0 : Int) ≤ 1 by omega) (show (1 : Int) < ((2 : Nat) : Int) by omega), cond_true, cond_true]
    by_cases h3 : hv p 0 < 0
    · rw [dec_t h3, cond_true]
    · rw [dec_f h3, cond_false]
      by_cases h4 : hv p 1 < 0
      · rw [dec_t h4, cond_true]
      · rw [h2, dec_t (show 0 ≤ hv p 0 by omega), dec_t (show 0 ≤ hv p 1 by omega)] at hb
        cases hb
  · rw [show ((p.size : Int) != 2) = true from bne_iff_ne.2 (by omega), cond_true]
theorem step_good {α : Type} (k0 : Option α) (k1 : Bool → Nat → (Nat → Nat → PV) → Option α) (m N i n : Nat) (nl : Bool) (f row : Nat → Nat → PV) (hi : i < N) (hN : N ≤ 1000) (hn : n ≤ 1000) (hb : gp (textOf (row i 0)) = true) : mac_Parse_L0_l0 k0 k1 (m + 1) (N : Int) (i : Int) nl n f N row = mac_Parse_L0_l0 k0 k1 m (N : Int) ((i + 1 : Nat) : Int) (nl && false) (n + 1) (catf n f (rowOf 1 [.val (.int .u8 (vp (textOf (row i 0))))])) N row := by
  show mac_Parse_L0_s0 (mac_Parse_L0_l0 k0 k1 m) k0 k1 (N : Int) (i : Int) nl n f N row = _
  unfold mac_Parse_L0_s0
  rw [dec_t (show (i : Int) < (N : Int) by omega), inb_t (show (0 : Int) ≤ (i : Int) by omega) (show (i : Int) < (N : Int) by omega), cond_true, cond_true, e5_hv, e6_hv, e7_vp, Int.toNat_natCast]
  simp only [gp, Bool.and_eq_true, beq_iff_eq, decide_eq_true_eq] at hb
  obtain ⟨h1, h2, h3⟩ := hb
  rw [h1, show (((2 : Nat) : Int) != 2) = false from rfl, cond_false, inb_t (show (0 : Int) ≤ 0 by omega) (show (0 : Int) < ((2 : Nat) : Int) by omega), inb_t (show (0 : Int) ≤ 1 by omega) (show (1 : Int) < ((2 : Nat) : Int) by omega), cond_true, cond_true, dec_f (show ¬ hv (textOf (row i 0)) 0 < 0 by omega), dec_f (show ¬ hv (textOf (row i 0)) 1 < 0 by omega), cond_false, cond_false, bndM (show n + 1 ≤ 200000 by omega), cond_true, i64_id (by omega) (by omega)]
  rfl
theorem loop_bad {N : Nat} {row : Nat → Nat → PV} (hN : N ≤ 1000) : ∀ (r m i : Nat) (nl : Bool) (f : Nat → Nat → PV), i + r = N → r < m → (∃ j, i ≤ j ∧ j < N ∧ gp (textOf (row j 0)) = false) → ∀ (α : Type) (k0 : Option α) k1, mac_Parse_L0_l0 k0 k1 m (N : Int) (i : Int) nl i f N row = k0
  | 0, m, i, nl, f, hi, hm, ⟨j, h1, h2, _⟩ => by omega
  | r + 1, 0, i, nl, f, hi, hm, _ => by omega
  | r + 1, m + 1, i, nl, f, hi, hm, ⟨j, h1, h2, h3⟩ => by
    intro α k0 k1
    cases hg : gp (textOf (row i 0)) with
    | false => exact step_bad k0 k1 m N i i nl f row (by omega) hg
    | true =>
      rw [step_good k0 k1 m N i i nl f row (by omega) hN (by omega) hg]
      have hne : j ≠ i := fun e => by rw [e, hg] at h3; cases h3
      exact loop_bad hN r m (i + 1) _ _ (by omega) (by omega) ⟨j, by omega, h2, h3⟩ α k0 k1
theorem loop_good {N : Nat} {row : Nat → Nat → PV} (hN : N ≤ 1000) : ∀ (r m i : Nat) (nl : Bool) (f : Nat → Nat → PV), i + r = N → r < m → (∀ j, i ≤ j → j < N → gp (textOf (row j 0)) = true) → ∃ nl' f', (∀ j, j < i → f' j 0 = f j 0) ∧ (∀ j, i ≤ j → j < N → numOf (f' j 0) = vp (textOf (row j 0))) ∧ ∀ (α : Type) (k0 : Option α) k1, mac_Parse_L0_l0 k0 k1 m (N : Int) (i : Int) nl i f N row = k1 nl' N f'
  | 0, 0, i, nl, f, hi, hm, _ => by omega
  | 0, m + 1, i, nl, f, hi, hm, _ => by
    obtain rfl : i = N := by omega
    exact ⟨nl, f, fun _ _ => rfl, fun j h1 h2 => by omega, fun α k0 k1 => step_end k0 k1 m i i nl f row⟩
  | r + 1, 0, i, nl, f, hi, hm, _ => by omega
  | r + 1, m + 1, i, nl, f, hi, hm, h => by
    have hg := h i (Nat.le_refl i) (by omega)
    obtain ⟨nl', f', k1, k2, k3⟩ := loop_good hN r m (i + 1) (nl && false) (catf i f (rowOf 1 [.val (.int .u8 (vp (textOf (row i 0))))])) (by omega) (by omega) (fun j h1 h2 => h j (by omega) h2)
    refine ⟨nl', f', fun j hj => ?_, fun j h1 h2 => ?_, fun α q0 q1 => ?_⟩
    · rw [k1 j (by omega), catf_lo hj]
    · by_cases hj : j = i
      · subst hj
        rw [k1 j (by omega)]
        have := catf_hi j f (rowOf 1 [.val (.int .u8 (vp (textOf (row j 0))))]) 0 0
        rw [Nat.add_zero] at this
        rw [this]
        rfl
      · exact k2 j (by omega) h2
    · rw [step_good q0 q1 m N i i nl f row (by omega) hN (by omega) hg, k3]
def qa (B : Int) : ByteArray := (⟨#[48, 49, 50, 51, 52, 53, 54, 55, 56, 57, 97, 98, 99, 100, 101, 102]⟩ : ByteArray).extract ((IntKind.u8.wrap (B.tdiv 16)).toNat) (((IntKind.u8.wrap (B.tdiv 16)).toNat) + (((IntKind.u8.wrap ((IntKind.u8.wrap (B.tdiv 16)) + 1)).toNat) - ((IntKind.u8.wrap (B.tdiv 16)).toNat)))
def qb (B : Int) : ByteArray := (⟨#[48, 49, 50, 51, 52, 53, 54, 55, 56, 57, 97, 98, 99, 100, 101, 102]⟩ : ByteArray).extract ((B.tmod 16).toNat) (((B.tmod 16).toNat) + (((IntKind.u8.wrap ((B.tmod 16) + 1)).toNat) - ((B.tmod 16).toNat)))
def tst2 (n : Nat) : Bool := inb (IntKind.u8.wrap ((IntKind.u8.wrap ((n : Int).tdiv 16)) + 1)) 17 && ((decide (0 ≤ IntKind.u8.wrap ((n : Int).tdiv 16)) && decide (IntKind.u8.wrap ((n : Int).tdiv 16) ≤ IntKind.u8.wrap ((IntKind.u8.wrap ((n : Int).tdiv 16)) + 1))) && (inb (IntKind.u8.wrap (((n : Int).tmod 16) + 1)) 17 && ((decide (0 ≤ (n : Int).tmod 16) && decide ((n : Int).tmod 16 ≤ IntKind.u8.wrap (((n : Int).tmod 16) + 1))) && (Nat.ble ((qa n).size + (qb n).size) 4611686018427387904 && (qa n ++ qb n).data.toList == [H (n / 16), H (n % 16)]))))
theorem all256r : ((List.range 256).all tst2) = true := by kernel_rfl
structure Byte2 (B : Int) (n : Nat) : Prop where
  c1 : inb (IntKind.u8.wrap ((IntKind.u8.wrap (B.tdiv 16)) + 1)) 17 = true
  c2 : (decide (0 ≤ IntKind.u8.wrap (B.tdiv 16)) && decide (IntKind.u8.wrap (B.tdiv 16) ≤ IntKind.u8.wrap ((IntKind.u8.wrap (B.tdiv 16)) + 1))) = true
  c3 : inb (IntKind.u8.wrap ((B.tmod 16) + 1)) 17 = true
  c4 : (decide (0 ≤ B.tmod 16) && decide (B.tmod 16 ≤ IntKind.u8.wrap ((B.tmod 16) + 1))) = true
  c5 : Nat.ble ((qa B).size + (qb B).size) 4611686018427387904 = true
  p : qa B ++ qb B = ⟨#[H (n / 16), H (n % 16)]⟩
theorem ba_ext {a : ByteArray} {l : List UInt8} (h : a.data.toList = l) : a = ⟨l.toArray⟩ := by
  obtain ⟨⟨a⟩⟩ := a
  subst h
  rfl
theorem byte2_ok {B : Int} {n : Nat} (e : B = (n : Int)) (h : n < 256) : Byte2 B n := by
  subst e
  have := List.all_eq_true.1 all256r n (List.mem_range.2 h)
  simp only [tst2, Bool.and_eq_true] at this
  obtain ⟨h1, h2, h3, h4, h5, h6⟩ := this
  exact ⟨h1, by simpa using h2, h3, by simpa using h4, h5, ba_ext (by simpa using h6)⟩
theorem wx (X : Nat) : IntKind.u8.wrap (X : Int) = ((b0' X : Nat) : Int) := by rw [wrap_u8]; unfold b0'; omega
def S (r : Nat → Nat → PV) : Int := ((((numOf (r 0 0) * 256 + numOf (r 1 0)) * 256 + numOf (r 2 0)) * 256 + numOf (r 3 0)) * 256 + numOf (r 4 0)) * 256 + numOf (r 5 0)
theorem of0 {α : Type} (k0 : Int → Option α) (m : Nat) (x : Int) (nl : Bool) (r : Nat → Nat → PV) : mac_Of_L0_l0 k0 (m + 1) x nl 6 r 6 0 = mac_Of_L0_l0 k0 m (bits .or .u64 (shlI .u64 x 8) (IntKind.u64.wrap (numOf (r 0 0)))) nl 6 r 6 1 := by kernel_rfl
theorem of1 {α : Type} (k0 : Int → Option α) (m : Nat) (x : Int) (nl : Bool) (r : Nat → Nat → PV) : mac_Of_L0_l0 k0 (m + 1) x nl 6 r 6 1 = mac_Of_L0_l0 k0 m (bits .or .u64 (shlI .u64 x 8) (IntKind.u64.wrap (numOf (r 1 0)))) nl 6 r 6 2 := by kernel_rfl
theorem of2 {α : Type} (k0 : Int → Option α) (m : Nat) (x : Int) (nl : Bool) (r : Nat → Nat → PV) : mac_Of_L0_l0 k0 (m + 1) x nl 6 r 6 2 = mac_Of_L0_l0 k0 m (bits .or .u64 (shlI .u64 x 8) (IntKind.u64.wrap (numOf (r 2 0)))) nl 6 r 6 3 := by kernel_rfl
theorem of3 {α : Type} (k0 : Int → Option α) (m : Nat) (x : Int) (nl : Bool) (r : Nat → Nat → PV) : mac_Of_L0_l0 k0 (m + 1) x nl 6 r 6 3 = mac_Of_L0_l0 k0 m (bits .or .u64 (shlI .u64 x 8) (IntKind.u64.wrap (numOf (r 3 0)))) nl 6 r 6 4 := by kernel_rfl
theorem of4 {α : Type} (k0 : Int → Option α) (m : Nat) (x : Int) (nl : Bool) (r : Nat → Nat → PV) : mac_Of_L0_l0 k0 (m + 1) x nl 6 r 6 4 = mac_Of_L0_l0 k0 m (bits .or .u64 (shlI .u64 x 8) (IntKind.u64.wrap (numOf (r 4 0)))) nl 6 r 6 5 := by kernel_rfl
theorem of5 {α : Type} (k0 : Int → Option α) (m : Nat) (x : Int) (nl : Bool) (r : Nat → Nat → PV) : mac_Of_L0_l0 k0 (m + 1) x nl 6 r 6 5 = mac_Of_L0_l0 k0 m (bits .or .u64 (shlI .u64 x 8) (IntKind.u64.wrap (numOf (r 5 0)))) nl 6 r 6 6 := by kernel_rfl
theorem of6 {α : Type} (k0 : Int → Option α) (m : Nat) (x : Int) (nl : Bool) (r : Nat → Nat → PV) : mac_Of_L0_l0 k0 (m + 1) x nl 6 r 6 6 = k0 x := by kernel_rfl
theorem mac_of (nl : Bool) (r : Nat → Nat → PV) (h : ∀ j, j < 6 → 0 ≤ numOf (r j 0) ∧ numOf (r j 0) ≤ 255) (α : Type) (k : Int → Int → Option α) : mac_Of nl 6 r k = k (S r) 0 := by
  have h0 := h 0 (by omega)
  have h1 := h 1 (by omega)
  have h2 := h 2 (by omega)
  have h3 := h 3 (by omega)
  have h4 := h 4 (by omega)
  have h5 := h 5 (by omega)
  have e : mac_Of nl 6 r k = mac_Of_L0_l0 (fun x => k x 0) (1152921504606846969 + 1 + 1 + 1 + 1 + 1 + 1 + 1) 0 nl 6 r 6 0 := by kernel_rfl
  rw [e, of0, of1, of2, of3, of4, of5, of6]
  unfold S
  rw [orv 0 _ (by omega) (by omega) (by omega) (by omega), show (0 : Int) * 256 + numOf (r 0 0) = numOf (r 0 0) by omega]
  rw [orv (numOf (r 0 0)) (numOf (r 1 0)) (by omega) (by omega) (by omega) (by omega), orv (numOf (r 0 0) * 256 + numOf (r 1 0)) (numOf (r 2 0)) (by omega) (by omega) (by omega) (by omega), orv ((numOf (r 0 0) * 256 + numOf (r 1 0)) * 256 + numOf (r 2 0)) (numOf (r 3 0)) (by omega) (by omega) (by omega) (by omega), orv (((numOf (r 0 0) * 256 + numOf (r 1 0)) * 256 + numOf (r 2 0)) * 256 + numOf (r 3 0)) (numOf (r 4 0)) (by omega) (by omega) (by omega) (by omega), orv ((((numOf (r 0 0) * 256 + numOf (r 1 0)) * 256 + numOf (r 2 0)) * 256 + numOf (r 3 0)) * 256 + numOf (r 4 0)) (numOf (r 5 0)) (by omega) (by omega) (by omega) (by omega)]
theorem mac_no (nl : Bool) (N : Nat) (hN : N ≠ 6) (r : Nat → Nat → PV) (α : Type) (k : Int → Int → Option α) : mac_Of nl N r k = k 0 11 := by
  unfold mac_Of mac_Of_T
  rw [show ((N : Int) != 6) = true from bne_iff_ne.2 (by omega), cond_true]
theorem split_step (x y : UInt8) (r : List UInt8) (hx : x ≠ 58) (hy : y ≠ 58) (k : Nat) : Lib.splitK [58] 0 (k + 1) (x :: y :: 58 :: r) = [x, y] :: Lib.splitK [58] 0 k r := by
  have h : Lib.index (x :: y :: 58 :: r) [58] = 2 := by
    rw [Lib.index_one]
    simp [Lib.indexByte, hx, hy]
  rw [Lib.splitK, h]
  rfl
theorem cnt_step (x y : UInt8) (r : List UInt8) (hx : x ≠ 58) (hy : y ≠ 58) : (x :: y :: 58 :: r).count 58 = r.count 58 + 1 := by
  simp [List.count_cons, hx, hy]
theorem Hne {n : Nat} (h : n < 16) : H n ≠ 58 := (undig_ok n h).2
def six' (v : Nat) : List ByteArray := [⟨#[H (b5 v / 16), H (b5 v % 16)]⟩, ⟨#[H (b4 v / 16), H (b4 v % 16)]⟩, ⟨#[H (b3 v / 16), H (b3 v % 16)]⟩, ⟨#[H (b2 v / 16), H (b2 v % 16)]⟩, ⟨#[H (b1 v / 16), H (b1 v % 16)]⟩, ⟨#[H (b0' v / 16), H (b0' v % 16)]⟩]
theorem text_pieces (X : Nat) : splitL ⟨(tl X).toArray⟩ ⟨#[58]⟩ = six' X := by
  have l5 : b5 X < 256 := by unfold b5; omega
  have l4 : b4 X < 256 := by unfold b4; omega
  have l3 : b3 X < 256 := by unfold b3; omega
  have l2 : b2 X < 256 := by unfold b2; omega
  have l1 : b1 X < 256 := by unfold b1; omega
  have l0 : b0' X < 256 := by unfold b0'; omega
  rw [splitL_eq]
  show (Lib.splitK [58] 0 ((tl X).count 58) (tl X)).map (fun l => (⟨l.toArray⟩ : ByteArray)) = _
  have hc : (tl X).count 58 = 5 := by
    unfold tl
    rw [cnt_step _ _ _ (Hne (by omega)) (Hne (by omega)), cnt_step _ _ _ (Hne (by omega)) (Hne (by omega)), cnt_step _ _ _ (Hne (by omega)) (Hne (by omega)), cnt_step _ _ _ (Hne (by omega)) (Hne (by omega)), cnt_step _ _ _ (Hne (by omega)) (Hne (by omega))]
    simp [List.count_cons, Hne (show b0' X / 16 < 16 by omega), Hne (show b0' X % 16 < 16 by omega)]
  rw [hc]
  unfold tl
  rw [split_step _ _ _ (Hne (by omega)) (Hne (by omega)), split_step _ _ _ (Hne (by omega)) (Hne (by omega)), split_step _ _ _ (Hne (by omega)) (Hne (by omega)), split_step _ _ _ (Hne (by omega)) (Hne (by omega)), split_step _ _ _ (Hne (by omega)) (Hne (by omega))]
  rfl
theorem split_len (s : ByteArray) (hs : s.size ≤ 200) : splitN s ⟨#[58]⟩ ≤ 201 := by
  have h1 := Lib.splitB_all ⟨#[58]⟩ (Nat.le_refl 1) 0 _ s rfl
  have h2 := Lib.countB_le ⟨#[58]⟩ (Nat.le_refl 1) s.size s (Nat.le_refl _)
  unfold splitN splitL
  omega
theorem parse_open (s : ByteArray) (hs : s.size ≤ 200) (α : Type) (k : Int → Int → Option α) : mac_Parse s k = mac_Parse_L0_l0 (k 0 11) (fun nl n f => mac_Of nl n f k) 18446744073709551616 ((splitN s ⟨#[58]⟩ : Nat) : Int) ((0 : Nat) : Int) true 0 (fun _ _ => .val undef) (splitN s ⟨#[58]⟩) (splitRow s ⟨#[58]⟩) := by
  unfold mac_Parse mac_Parse_T
  rw [show splitOk s ⟨#[58]⟩ = true by unfold splitOk; rw [ble_true (show s.size ≤ 4294967280 by omega)]; rfl, cond_true]
  rfl
theorem parse_six (s : ByteArray) (hs : s.size ≤ 200) (p0 p1 p2 p3 p4 p5 : ByteArray) (h : splitL s ⟨#[58]⟩ = [p0, p1, p2, p3, p4, p5]) (g0 : gp p0 = true) (g1 : gp p1 = true) (g2 : gp p2 = true) (g3 : gp p3 = true) (g4 : gp p4 = true) (g5 : gp p5 = true) (v : Nat) (hv : (v : Int) = ((((vp p0 * 256 + vp p1) * 256 + vp p2) * 256 + vp p3) * 256 + vp p4) * 256 + vp p5)
    (hb : ∀ p, p ∈ [p0, p1, p2, p3, p4, p5] → 0 ≤ vp p ∧ vp p ≤ 255) (α : Type) (k : Int → Int → Option α) : mac_Parse s k = k (v : Int) 0 := by
  have hN : splitN s ⟨#[58]⟩ = 6 := by unfold splitN; rw [h]; rfl
  have ht : ∀ j, textOf (splitRow s ⟨#[58]⟩ j 0) = [p0, p1, p2, p3, p4, p5].getD j ⟨#[]⟩ := fun j => by show (splitL s ⟨#[58]⟩).getD j ⟨#[]⟩ = _; rw [h]
  obtain ⟨nl, f, _, q2, q3⟩ := loop_good (N := 6) (row := splitRow s ⟨#[58]⟩) (by omega) 6 18446744073709551616 0 true (fun _ _ => .val undef) (by omega) (by omega) (fun j _ hj => by
    rw [ht]
    match j, hj with
    | 0, _ => exact g0
    | 1, _ => exact g1
    | 2, _ => exact g2
    | 3, _ => exact g3
    | 4, _ => exact g4
    | 5, _ => exact g5)
  have e : ∀ j, j < 6 → numOf (f j 0) = vp ([p0, p1, p2, p3, p4, p5].getD j ⟨#[]⟩) := fun j hj => by rw [q2 j (Nat.zero_le j) hj, ht]
  rw [parse_open s hs, hN, q3, mac_of nl f (fun j hj => by
    rw [e j hj]
    refine hb _ ?_
    match j, hj with
    | 0, _ => simp
    | 1, _ => simp
    | 2, _ => simp
    | 3, _ => simp
    | 4, _ => simp
    | 5, _ => simp)]
  congr 1
  unfold S
  rw [e 0 (by omega), e 1 (by omega), e 2 (by omega), e 3 (by omega), e 4 (by omega), e 5 (by omega)]
  exact hv.symm
theorem parse_text (X : Nat) (hX : X < 281474976710656) (α : Type) (k : Int → Int → Option α) : mac_Parse ⟨(tl X).toArray⟩ k = k (X : Int) 0 := by
  have l5 : b5 X < 256 := by unfold b5; omega
  have l4 : b4 X < 256 := by unfold b4; omega
  have l3 : b3 X < 256 := by unfold b3; omega
  have l2 : b2 X < 256 := by unfold b2; omega
  have l1 : b1 X < 256 := by unfold b1; omega
  have l0 : b0' X < 256 := by unfold b0'; omega
  obtain ⟨g5, v5⟩ := gp_of (show b5 X / 16 < 16 by omega) (show b5 X % 16 < 16 by omega)
  obtain ⟨g4, v4⟩ := gp_of (show b4 X / 16 < 16 by omega) (show b4 X % 16 < 16 by omega)
  obtain ⟨g3, v3⟩ := gp_of (show b3 X / 16 < 16 by omega) (show b3 X % 16 < 16 by omega)
  obtain ⟨g2, v2⟩ := gp_of (show b2 X / 16 < 16 by omega) (show b2 X % 16 < 16 by omega)
  obtain ⟨g1, v1⟩ := gp_of (show b1 X / 16 < 16 by omega) (show b1 X % 16 < 16 by omega)
  obtain ⟨g0, v0⟩ := gp_of (show b0' X / 16 < 16 by omega) (show b0' X % 16 < 16 by omega)
  refine parse_six ⟨(tl X).toArray⟩ (by show 17 ≤ 200; omega) _ _ _ _ _ _ (text_pieces X) g5 g4 g3 g2 g1 g0 X ?_ ?_ α k
  · rw [v5, v4, v3, v2, v1, v0]
    unfold b5 b4 b3 b2 b1 b0'
    omega
  · intro p hp
    simp only [List.mem_cons, List.not_mem_nil, or_false] at hp
    rcases hp with rfl | rfl | rfl | rfl | rfl | rfl
    · rw [v5]; omega
    · rw [v4]; omega
    · rw [v3]; omega
    · rw [v2]; omega
    · rw [v1]; omega
    · rw [v0]; omega
theorem tl_inj (X Y : Nat) (hX : X < 281474976710656) (hY : Y < 281474976710656) (h : tl X = tl Y) : X = Y := by
  have h1 := parse_text X hX Int (fun v _ => some v)
  rw [h, parse_text Y hY Int (fun v _ => some v)] at h1
  injection h1 with h1
  omega
theorem parse_cases (s : ByteArray) (hs : s.size ≤ 200) : (∀ (α : Type) (k : Int → Int → Option α), mac_Parse s k = k 0 11) ∨ ∃ v : Nat, v < 281474976710656 ∧ s.data.toList = tl v ∧ ∀ (α : Type) (k : Int → Int → Option α), mac_Parse s k = k (v : Int) 0 := by
  have hN := split_len s hs
  by_cases hbad : ∃ j, 0 ≤ j ∧ j < splitN s ⟨#[58]⟩ ∧ gp (textOf (splitRow s ⟨#[58]⟩ j 0)) = false
  · refine .inl fun α k => ?_
    rw [parse_open s hs]
    exact loop_bad (by omega) (splitN s ⟨#[58]⟩) _ 0 _ _ (by omega) (by omega) hbad α _ _
  have hgood : ∀ j, 0 ≤ j → j < splitN s ⟨#[58]⟩ → gp (textOf (splitRow s ⟨#[58]⟩ j 0)) = true := fun j h0 h1 => by
    cases hg : gp (textOf (splitRow s ⟨#[58]⟩ j 0)) with
    | true => rfl
    | false => exact absurd ⟨j, h0, h1, hg⟩ hbad
  by_cases h6 : splitN s ⟨#[58]⟩ = 6
  rotate_left
  · refine .inl fun α k => ?_
    obtain ⟨nl, f, _, _, q3⟩ := loop_good (by omega) (splitN s ⟨#[58]⟩) 18446744073709551616 0 true (fun _ _ => .val undef) (by omega) (by omega) hgood
    rw [parse_open s hs, q3, mac_no nl _ h6]
  · have hd := Lib.splitB_data ⟨#[58]⟩ 0 (Lib.countB s ⟨#[58]⟩) s
    have hj := splitK_join 58 (Lib.countB s ⟨#[58]⟩) s.data.toList
    rw [show (⟨#[58]⟩ : ByteArray).data.toList = [58] from rfl] at hd
    rw [← hd] at hj
    have hl : (splitL s ⟨#[58]⟩).length = 6 := h6
    have hg : ∀ j, j < 6 → gp ((splitL s ⟨#[58]⟩).getD j ⟨#[]⟩) = true := fun j h => hgood j (Nat.zero_le j) (by rw [h6]; exact h)
    change Lib.join ((splitL s ⟨#[58]⟩).map (·.data.toList)) [58] = s.data.toList at hj
    generalize hL : splitL s ⟨#[58]⟩ = L at *
    match L, hl with
    | [p0, p1, p2, p3, p4, p5], _ =>
      have g0 : gp p0 = true := hg 0 (by omega)
      have g1 : gp p1 = true := hg 1 (by omega)
      have g2 : gp p2 = true := hg 2 (by omega)
      have g3 : gp p3 = true := hg 3 (by omega)
      have g4 : gp p4 = true := hg 4 (by omega)
      have g5 : gp p5 = true := hg 5 (by omega)
      obtain ⟨n0, m0, x0, y0, rfl⟩ := of_gp g0
      obtain ⟨n1, m1, x1, y1, rfl⟩ := of_gp g1
      obtain ⟨n2, m2, x2, y2, rfl⟩ := of_gp g2
      obtain ⟨n3, m3, x3, y3, rfl⟩ := of_gp g3
      obtain ⟨n4, m4, x4, y4, rfl⟩ := of_gp g4
      obtain ⟨n5, m5, x5, y5, rfl⟩ := of_gp g5
      have w0 := (gp_of x0 y0).2
      have w1 := (gp_of x1 y1).2
      have w2 := (gp_of x2 y2).2
      have w3 := (gp_of x3 y3).2
      have w4 := (gp_of x4 y4).2
      have w5 := (gp_of x5 y5).2
      let v : Nat := (((((n0 * 16 + m0) * 256 + (n1 * 16 + m1)) * 256 + (n2 * 16 + m2)) * 256 + (n3 * 16 + m3)) * 256 + (n4 * 16 + m4)) * 256 + (n5 * 16 + m5)
      have hv : v = (((((n0 * 16 + m0) * 256 + (n1 * 16 + m1)) * 256 + (n2 * 16 + m2)) * 256 + (n3 * 16 + m3)) * 256 + (n4 * 16 + m4)) * 256 + (n5 * 16 + m5) := rfl
      have r5 : b5 v = n0 * 16 + m0 := by unfold b5; omega
      have r4 : b4 v = n1 * 16 + m1 := by unfold b4; omega
      have r3 : b3 v = n2 * 16 + m2 := by unfold b3; omega
      have r2 : b2 v = n3 * 16 + m3 := by unfold b2; omega
      have r1 : b1 v = n4 * 16 + m4 := by unfold b1; omega
      have r0 : b0' v = n5 * 16 + m5 := by unfold b0'; omega
      refine .inr ⟨v, by omega, ?_, fun α k => ?_⟩
      · rw [← hj]
        unfold tl
        rw [r5, r4, r3, r2, r1, r0]
        rw [show (n0 * 16 + m0) / 16 = n0 by omega, show (n0 * 16 + m0) % 16 = m0 by omega, show (n1 * 16 + m1) / 16 = n1 by omega, show (n1 * 16 + m1) % 16 = m1 by omega, show (n2 * 16 + m2) / 16 = n2 by omega, show (n2 * 16 + m2) % 16 = m2 by omega, show (n3 * 16 + m3) / 16 = n3 by omega, show (n3 * 16 + m3) % 16 = m3 by omega, show (n4 * 16 + m4) / 16 = n4 by omega, show (n4 * 16 + m4) % 16 = m4 by omega, show (n5 * 16 + m5) / 16 = n5 by omega, show (n5 * 16 + m5) % 16 = m5 by omega]
        rfl
      · refine parse_six s hs _ _ _ _ _ _ hL g0 g1 g2 g3 g4 g5 v ?_ ?_ α k
        · rw [w0, w1, w2, w3, w4, w5, hv]
          omega
        · intro p hp
          simp only [List.mem_cons, List.not_mem_nil, or_false] at hp
          rcases hp with rfl | rfl | rfl | rfl | rfl | rfl
          · rw [w0]; omega
          · rw [w1]; omega
          · rw [w2]; omega
          · rw [w3]; omega
          · rw [w4]; omega
          · rw [w5]; omega
def res (c : Nat) (k : Nat) : Int := bif decide (0 ≤ Lib.indexByte D c.toUInt8) && decide (Lib.indexByte D c.toUInt8 < (k : Int)) then Lib.indexByte D c.toUInt8 else -1
def rlast : Bool := (List.range 256).all fun c => res c 16 == Lib.indexByte D c.toUInt8 && res c 0 == -1
theorem rlast_ok : rlast = true := by kernel_rfl
theorem res_last (c : UInt8) : res c.toNat 16 = Lib.indexByte D c ∧ res c.toNat 0 = -1 := by
  have := List.all_eq_true.1 rlast_ok c.toNat (List.mem_range.2 c.toNat_lt)
  rw [show c.toNat.toUInt8 = c from UInt8.ofNat_toNat] at this
  simpa using this
def hz (n : Nat → Nat) : Nat → Nat → Nat → Nat
  | _, w, 0 => w
  | i, w, r + 1 => bif Nat.beq (i % 3) 2 then hz n (i + 1) w r else hz n (i + 1) (w * 16 + n i) r
def nv (v : Nat) : Nat → Nat
  | 0 => b5 v / 16 | 1 => b5 v % 16 | 3 => b4 v / 16 | 4 => b4 v % 16 | 6 => b3 v / 16 | 7 => b3 v % 16 | 9 => b2 v / 16 | 10 => b2 v % 16 | 12 => b1 v / 16 | 13 => b1 v % 16 | 15 => b0' v / 16 | _ => b0' v % 16
theorem hz_nv (v : Nat) (hv : v < 281474976710656) : hz (nv v) 0 0 17 = v := by
  have e : hz (nv v) 0 0 17 = (((((((((((0 * 16 + b5 v / 16) * 16 + b5 v % 16) * 16 + b4 v / 16) * 16 + b4 v % 16) * 16 + b3 v / 16) * 16 + b3 v % 16) * 16 + b2 v / 16) * 16 + b2 v % 16) * 16 + b1 v / 16) * 16 + b1 v % 16) * 16 + b0' v / 16) * 16 + b0' v % 16 := by kernel_rfl
  rw [e]
  unfold b5 b4 b3 b2 b1 b0'
  omega
theorem and_hi (x : Nat) (hx : x < 18446744073709551616) : x &&& 18446744073709551600 = x / 16 * 16 := by
  apply Nat.eq_of_testBit_eq
  intro i
  rw [Nat.testBit_and, show (18446744073709551600 : Nat) = 2 ^ 4 * (2 ^ 60 - 1) by decide, Nat.testBit_two_pow_mul, Nat.testBit_two_pow_sub_one, show x / 16 * 16 = 2 ^ 4 * (x / 2 ^ 4) by omega, Nat.testBit_two_pow_mul, Nat.testBit_div_two_pow]
  by_cases h : i ≥ 4
  · rw [show i - 4 + 4 = i by omega]
    by_cases h2 : i - 4 < 60
    · simp [h, h2]
    · have : x.testBit i = false := Nat.testBit_lt_two_pow (Nat.lt_of_lt_of_le hx (by rw [show (18446744073709551616 : Nat) = 2 ^ 64 by decide]; exact Nat.pow_le_pow_right (by omega) (by omega)))
      simp [this]
  · simp [h]
theorem andNot15 (x : Nat) (hx : x < 18446744073709551616) : bits .andNot .u64 (x : Int) 15 = ((x / 16 * 16 : Nat) : Int) := by
  show IntKind.u64.wrap ((BitVec.ofInt 64 (x : Int) &&& ~~~BitVec.ofInt 64 15).toNat : Int) = _
  have h1 : (BitVec.ofInt 64 15).toNat = 15 := by decide
  have h2 : (BitVec.ofInt 64 (x : Int)).toNat = x := by
    rw [BitVec.ofInt_natCast, BitVec.toNat_ofNat]; exact Nat.mod_eq_of_lt (by omega)
  rw [BitVec.toNat_and, BitVec.toNat_not, h2, h1, show 2 ^ 64 - 1 - 15 = 18446744073709551600 by decide, and_hi x hx]
  exact u64_id (by omega) (by omega)
structure C8 where
  what : Int
  kind : Int
  port : Int
  num : Int
  vlan : Int
  memb : Int
  tagd : Int
  mac : Int
def TB (n : Nat) (f : Nat → Nat → PV) (L : List ByteArray) : Prop := L.length = n ∧ ∀ j (h : j < L.length), textOf (f j 0) = L[j]
def w2b (l : List UInt8) : ByteArray := ⟨l.toArray⟩
theorem TB.of {n : Nat} {f : Nat → Nat → PV} {L : List (List UInt8)} (h : TL n f L) : TB n f (L.map w2b) := by
  refine ⟨by simp [h.1], fun j hj => ?_⟩
  have hj' : j < L.length := by simpa using hj
  apply bl_inj
  rw [h.2 j hj', List.getElem_map]
  rfl
theorem TB.row (n : Nat) (f : Nat → Nat → PV) : TB n f (Ve.rowL n f) := ⟨by simp [Ve.rowL], fun j h => by simp [Ve.rowL]⟩
def NB (n : Nat) (f : Nat → Nat → PV) (L : List Int) : Prop := L.length = n ∧ ∀ j (h : j < L.length), numOf (f j 0) = L[j]
theorem NB.nil (f : Nat → Nat → PV) : NB 0 f [] := ⟨rfl, fun j h => absurd h (Nat.not_lt_zero j)⟩
theorem NB.snoc {n : Nat} {f : Nat → Nat → PV} {L : List Int} (h : NB n f L) (b : Int) : NB (n + 1) (catf n f (rowOf 1 [.val (.int .i64 b)])) (L ++ [b]) := by
  refine ⟨by simp [h.1], fun j hj => ?_⟩
  simp only [List.length_append, List.length_singleton] at hj
  have hn := h.1
  by_cases hl : j < L.length
  · rw [List.getElem_append_left hl]
    have : Nat.blt j n = true := Nat.ble_eq_true_of_le (by omega)
    show numOf (bif Nat.blt j n then f j 0 else _) = _
    rw [this, cond_true]
    exact h.2 j hl
  · obtain rfl : j = L.length := by omega
    have hb : Nat.blt L.length n = false := by
      cases hh : Nat.blt L.length n with
      | false => rfl
      | true => have := Nat.le_of_ble_eq_true hh; omega
    rw [List.getElem_append_right (Nat.le_refl _)]
    show numOf (bif Nat.blt L.length n then f L.length 0 else rowOf 1 [.val (.int .i64 b)] (L.length - n) 0) = _
    rw [hb, cond_false, show L.length - n = 0 by omega]
    simp
    rfl
def macP (s : ByteArray) : Int × Int := (mac_Parse s (fun v e => some (v, e))).getD (0, 0)
theorem macP_p (s : ByteArray) (hs : s.size ≤ 200) (α : Type) (k : Int → Int → Option α) : mac_Parse s k = k (macP s).1 (macP s).2 := by
  rcases parse_cases s hs with h | ⟨v, _, _, h⟩
  · have : macP s = (0, 11) := by unfold macP; rw [h]; rfl
    rw [this]; exact h α k
  · have : macP s = ((v : Int), 0) := by unfold macP; rw [h]; rfl
    rw [this]; exact h α k
def rd (a w : ByteArray) (c : C8) : Option C8 :=
  bif a.data.toList == [78] then bif numOk w then some { c with num := numI w } else none
  else bif a.data.toList == [80] then bif numOk w && decide (numI w ≤ 255) then some { c with port := numI w } else none
  else bif a.data.toList == [86] then bif numOk w && decide (numI w ≤ 65535) then some { c with vlan := numI w } else none
  else bif a.data.toList == [77] then bif numOk w && decide (numI w ≤ 255) then some { c with memb := IntKind.u8.wrap (numI w) } else none
  else bif a.data.toList == [84] then bif numOk w && decide (numI w ≤ 255) then some { c with tagd := IntKind.u8.wrap (numI w) } else none
  else bif a.data.toList == [65] then bif (macP w).2 == 0 then some { c with mac := (macP w).1 } else none
  else bif w.data.toList == a.data.toList then some c else none
theorem small (w : ByteArray) (hw : w.size ≤ 200) (α : Type) (k0 : Int → Bool → Option α) (k1 : Int → Option α) : parse_small w k0 k1 = bif numOk w then k0 (numI w) (decide (numI w ≤ 255)) else k1 (numI w) := by
  unfold parse_small parse_small_T
  rw [ble_true (by omega), cond_true]
theorem small1 (w : ByteArray) (hw : w.size ≤ 200) (α : Type) (k0 : Int → Bool → Option α) (k1 : Int → Option α) : parse_small_v1 w k0 k1 = bif numOk w then k0 (numI w) (decide (numI w ≤ 65535)) else k1 (numI w) := by
  unfold parse_small_v1 parse_small_v1_T
  rw [ble_true (by omega), cond_true]
theorem read_eq (a w : ByteArray) (c : C8) (hw : w.size ≤ 200) : ∃ (b : Bool) (c' : C8), rd a w c = (bif b then some c' else none) ∧ ∀ (α : Type) (k0 : Bool → Int → Int → Int → Int → Int → Int → Int → Int → Option α), parse_Cmd_read a w c.what c.kind c.port c.num c.vlan c.memb c.tagd c.mac k0 = k0 b c'.what c'.kind c'.port c'.num c'.vlan c'.memb c'.tagd c'.mac := by
  unfold rd
  cases hN : a.data.toList == [78] with
  | true =>
    refine ⟨numOk w, { c with num := numI w }, rfl, fun α k0 => ?_⟩
    unfold parse_Cmd_read parse_Cmd_read_T
    rw [beq_bl]; show (bif (a.data.toList == [78]) then _ else _) = _
    rw [hN, cond_true, ble_true (by omega), cond_true]
  | false =>
  rw [cond_false]
  cases hP : a.data.toList == [80] with
  | true =>
    refine ⟨numOk w && decide (numI w ≤ 255), { c with port := numI w }, rfl, fun α k0 => ?_⟩
    unfold parse_Cmd_read parse_Cmd_read_T
    simp only [beq_bl, hN, hP, cond_false, cond_true]
    rw [small w hw]
    cases numOk w <;> rfl
  | false =>
  rw [cond_false]
  cases hV : a.data.toList == [86] with
  | true =>
    refine ⟨numOk w && decide (numI w ≤ 65535), { c with vlan := numI w }, rfl, fun α k0 => ?_⟩
    unfold parse_Cmd_read parse_Cmd_read_T
    simp only [beq_bl, hN, hP, hV, cond_false, cond_true]
    rw [small1 w hw]
    cases numOk w <;> rfl
  | false =>
  rw [cond_false]
  cases hM : a.data.toList == [77] with
  | true =>
    refine ⟨numOk w && decide (numI w ≤ 255), { c with memb := IntKind.u8.wrap (numI w) }, rfl, fun α k0 => ?_⟩
    unfold parse_Cmd_read parse_Cmd_read_T
    simp only [beq_bl, hN, hP, hV, hM, cond_false, cond_true]
    rw [small w hw]
    cases numOk w <;> rfl
  | false =>
  rw [cond_false]
  cases hT : a.data.toList == [84] with
  | true =>
    refine ⟨numOk w && decide (numI w ≤ 255), { c with tagd := IntKind.u8.wrap (numI w) }, rfl, fun α k0 => ?_⟩
    unfold parse_Cmd_read parse_Cmd_read_T
    simp only [beq_bl, hN, hP, hV, hM, hT, cond_false, cond_true]
    rw [small w hw]
    cases numOk w <;> rfl
  | false =>
  rw [cond_false]
  cases hA : a.data.toList == [65] with
  | true =>
    refine ⟨(macP w).2 == 0, { c with mac := (macP w).1 }, rfl, fun α k0 => ?_⟩
    unfold parse_Cmd_read parse_Cmd_read_T
    simp only [beq_bl, hN, hP, hV, hM, hT, hA, cond_false, cond_true]
    rw [macP_p w hw]
  | false =>
    rw [cond_false]
    refine ⟨w.data.toList == a.data.toList, c, rfl, fun α k0 => ?_⟩
    unfold parse_Cmd_read parse_Cmd_read_T
    simp only [beq_bl, hN, hP, hV, hM, hT, hA, cond_false, cond_true]
def takeF : List ByteArray → List ByteArray → C8 → Option C8
  | a :: V, w :: W, c => match rd a w c with
    | some c' => takeF V W c'
    | none => none
  | _, _, c => some c
def kC {α : Type} (k : Int → Int → Int → Int → Int → Int → Int → Int → Option α) (c : C8) : Option α := k c.what c.kind c.port c.num c.vlan c.memb c.tagd c.mac
theorem take_loop {n : Nat} {f g : Nat → Nat → PV} {V W : List ByteArray} (hV : TB n g V) (hW : TB n f W) (hn : n ≤ 1000) (hs : ∀ w ∈ W, w.size ≤ 200) (nl nl2 : Bool) (α : Type) (k0 : Bool → Nat → (Nat → Nat → PV) → Option α) (k1 : Bool → Nat → (Nat → Nat → PV) → Int → Int → Int → Int → Int → Int → Int → Int → Option α) : ∀ (d i fuel : Nat) (c : C8), i + d = n → d < fuel →
    parse_form_take_L0_l0 k0 k1 fuel (n : Int) (i : Int) nl n f nl2 n g c.what c.kind c.port c.num c.vlan c.memb c.tagd c.mac = match takeF (V.drop i) (W.drop i) c with
      | none => k0 nl n f
      | some c' => k1 nl n f c'.what c'.kind c'.port c'.num c'.vlan c'.memb c'.tagd c'.mac
 := by
  intro d
  induction d with
  | zero =>
    intro i fuel c hi hf
    obtain ⟨fuel, rfl⟩ : ∃ m, fuel = m + 1 := ⟨fuel - 1, by omega⟩
    obtain rfl : i = n := by omega
    rw [List.drop_eq_nil_of_le (by rw [hV.1]; exact Nat.le_refl _), List.drop_eq_nil_of_le (by rw [hW.1]; exact Nat.le_refl _)]
    show parse_form_take_L0_s0 _ _ k0 k1 (i : Int) (i : Int) nl i f nl2 i g c.what c.kind c.port c.num c.vlan c.memb c.tagd c.mac = k1 nl i f c.what c.kind c.port c.num c.vlan c.memb c.tagd c.mac
    unfold parse_form_take_L0_s0
    rw [dec_f (Int.lt_irrefl _), cond_false]
  | succ d ih =>
    intro i fuel c hi hf
    obtain ⟨fuel, rfl⟩ : ∃ m, fuel = m + 1 := ⟨fuel - 1, by omega⟩
    have h1 : i < V.length := by rw [hV.1]; omega
    have h2 : i < W.length := by rw [hW.1]; omega
    rw [List.drop_eq_getElem_cons h1, List.drop_eq_getElem_cons h2]
    obtain ⟨b, c', q1, q2⟩ := read_eq V[i] W[i] c (hs _ (List.getElem_mem h2))
    show parse_form_take_L0_s0 _ _ k0 k1 (n : Int) (i : Int) nl n f nl2 n g c.what c.kind c.port c.num c.vlan c.memb c.tagd c.mac = _
    unfold parse_form_take_L0_s0
    rw [dec_t (show (i : Int) < (n : Int) by omega), inb_t (show (0 : Int) ≤ (i : Int) by omega) (show (i : Int) < (n : Int) by omega), cond_true, cond_true, cond_true, Int.toNat_natCast, hV.2 i h1, hW.2 i h2, q2]
    unfold takeF
    rw [q1]
    cases b with
    | false => rfl
    | true =>
      have := ih (i + 1) fuel c' (by omega) (by omega)
      show parse_form_take_L0_l0 k0 k1 fuel (n : Int) (IntKind.i64.wrap ((i : Int) + 1)) nl n f nl2 n g c'.what c'.kind c'.port c'.num c'.vlan c'.memb c'.tagd c'.mac = _
      rw [i64_id (by omega) (by omega)]
      exact this
def Vs (i : Nat) : List ByteArray := (words (textOf (e1 i 8)).data.toList).map w2b
def ci (i : Nat) : C8 := ⟨numOf (e1 i 0), numOf (e1 i 1), numOf (e1 i 2), numOf (e1 i 3), numOf (e1 i 4), numOf (e1 i 5), numOf (e1 i 6), numOf (e1 i 7)⟩
def tk (i : Nat) (W : List ByteArray) : Option C8 := bif (Vs i).length == W.length then takeF (Vs i) W (ci i) else none
theorem short (i : Nat) (h : i < 16) : (textOf (e1 i 8)).size ≤ 100 := by
  have : (List.range 16).all (fun i => Nat.ble (textOf (e1 i 8)).size 100) = true := by kernel_rfl
  have := List.all_eq_true.1 this i (List.mem_range.2 h)
  exact Nat.le_of_ble_eq_true this
theorem take_eq {n : Nat} {f : Nat → Nat → PV} {W : List ByteArray} (hW : TB n f W) (hn : n ≤ 1000) (hs : ∀ w ∈ W, w.size ≤ 200) (nl : Bool) (i : Nat) (hi : i < 16) (α : Type) (k0 : Bool → Nat → (Nat → Nat → PV) → Option α) (k1 : Int → Int → Int → Int → Int → Int → Int → Int → Bool → Nat → (Nat → Nat → PV) → Option α) :
    parse_form_take (ci i).what (ci i).kind (ci i).port (ci i).num (ci i).vlan (ci i).memb (ci i).tagd (ci i).mac (textOf (e1 i 8)) nl n f k0 k1 = match tk i W with
      | none => k0 nl n f
      | some c => k1 c.what c.kind c.port c.num c.vlan c.memb c.tagd c.mac nl n f := by
  have hsz := short i hi
  obtain ⟨nl2, m, g, h1, h2⟩ := cutP (textOf (e1 i 8)) (by omega) (fun _ _ => .val undef)
  have hV : TB m g (Vs i) := TB.of h1
  unfold parse_form_take parse_form_take_T
  rw [splitOk_of (by omega), cond_true, h2]
  unfold tk
  by_cases hm : m = n
  · subst hm
    have e : ((m : Int) != (m : Int)) = false := by simp
    rw [e, cond_false, show ((Vs i).length == W.length) = true by rw [hV.1, hW.1]; exact beq_self_eq_true m, cond_true]
    unfold parse_form_take_L0
    have := take_loop hV hW hn hs nl nl2 α (fun r_16 r_17 r_18 => k0 r_16 r_17 r_18) (fun r_16 r_17 r_18 r_19 r_20 r_21 r_22 r_23 r_24 r_25 r_26 => k1 r_19 r_20 r_21 r_22 r_23 r_24 r_25 r_26 r_16 r_17 r_18) m 0 18446744073709551616 (ci i) (by omega) (by omega)
    rw [List.drop_zero, List.drop_zero] at this
    exact this
  · have e : ((m : Int) != (n : Int)) = true := by simp; omega
    rw [e, cond_true, show ((Vs i).length == W.length) = false by rw [hV.1, hW.1]; exact beq_false_of_ne hm, cond_false]
def first (F : Nat → Option C8) : Nat → Nat → Option C8
  | _, 0 => none
  | i, d + 1 => match F i with
    | some c => some c
    | none => first F (i + 1) d
theorem first_congr {F G : Nat → Option C8} : ∀ (d i : Nat), (∀ j, i ≤ j → j < i + d → F j = G j) → first F i d = first G i d
  | 0, i, h => rfl
  | d + 1, i, h => by
    unfold first
    rw [h i (Nat.le_refl _) (by omega), first_congr d (i + 1) (fun j h1 h2 => h j (by omega) (by omega))]
theorem lineP_loop {n : Nat} {f : Nat → Nat → PV} {W : List ByteArray} (hW : TB n f W) (hn : n ≤ 1000) (hs : ∀ w ∈ W, w.size ≤ 200) (nl : Bool) (α : Type) (k0 : Int → Int → Int → Int → Int → Int → Int → Int → Option α) (k1 : Option α) : ∀ (d i fuel : Nat), i + d = 16 → d < fuel →
    parse_Line_L0_l0 k0 k1 fuel (i : Int) nl n f e1 = match first (fun j => tk j W) i d with
      | none => k1
      | some c => kC k0 c
  | 0, i, fuel + 1, hi, hf => by
    obtain rfl : i = 16 := by omega
    show parse_Line_L0_s0 _ _ k0 k1 ((16 : Nat) : Int) nl n f e1 = k1
    unfold parse_Line_L0_s0
    rw [dec_f (by omega), cond_false]
  | d + 1, i, fuel + 1, hi, hf => by
    show parse_Line_L0_s0 _ _ k0 k1 (i : Int) nl n f e1 = _
    unfold parse_Line_L0_s0
    rw [dec_t (show (i : Int) < 16 by omega), inb_t (show (0 : Int) ≤ (i : Int) by omega) (show (i : Int) < ((16 : Nat) : Int) by omega), cond_true, cond_true, Int.toNat_natCast]
    have h := take_eq hW hn hs nl i (by omega) α (fun r_6 r_7 r_8 => parse_Line_L0_l0 k0 k1 fuel (IntKind.i64.wrap ((i : Int) + 1)) r_6 r_7 r_8 e1) (fun r_6 r_7 r_8 r_9 r_10 r_11 r_12 r_13 r_14 r_15 r_16 => k0 r_6 r_7 r_8 r_9 r_10 r_11 r_12 r_13)
    refine h.trans ?_
    unfold first
    cases tk i W with
    | some c => rfl
    | none =>
      dsimp only
      rw [i64_id (by omega) (by omega)]
      exact lineP_loop hW hn hs nl α k0 k1 d (i + 1) fuel (by omega) (by omega)
def WB (s : ByteArray) : List ByteArray := (words s.data.toList).map w2b
def find (W : List ByteArray) : Option C8 := first (fun j => tk j W) 0 16
theorem bulk_mem {w : List UInt8} : ∀ {L : List (List UInt8)}, w ∈ L → w.length + 1 ≤ bulk L
  | x :: L, h => by
    unfold bulk
    rcases List.mem_cons.1 h with rfl | h
    · omega
    · have := bulk_mem h; omega
theorem WB_small {s : ByteArray} (hs : s.size ≤ 200) : (WB s).length ≤ 1000 ∧ ∀ w ∈ WB s, w.size ≤ 200 := by
  have h := words_bulk s.data.toList
  have hl := bulk_len (words s.data.toList)
  rw [bl_size] at h
  refine ⟨by unfold WB; rw [List.length_map]; omega, fun w hw => ?_⟩
  obtain ⟨l, h1, rfl⟩ := List.mem_map.1 hw
  have := bulk_mem h1
  show l.toArray.size ≤ 200
  simp
  omega
theorem lineP (s : ByteArray) (hs : s.size ≤ 200) (α : Type) (k0 : Option α) (k1 : Int → Int → Int → Int → Int → Int → Int → Int → Option α) (k2 : Option α) : parse_Line s k0 k1 k2 = match find (WB s) with
      | none => k2
      | some c => kC k1 c := by
  obtain ⟨nl, n, f, h1, h2⟩ := cutP s (by omega) (fun _ _ => .val undef)
  obtain ⟨w1, w2⟩ := WB_small hs
  have hW : TB n f (WB s) := TB.of h1
  unfold parse_Line parse_Line_T
  rw [dec_f (show ¬ (s.size : Int) > 200 by omega), cond_false, splitOk_of (by omega), cond_true, h2]
  exact lineP_loop hW (by rw [← hW.1]; exact w1) w2 nl α (fun r_5 r_6 r_7 r_8 r_9 r_10 r_11 r_12 => k1 r_5 r_6 r_7 r_8 r_9 r_10 r_11 r_12) k2 16 0 18446744073709551616 (by omega) (by omega)
theorem lineP_long (s : ByteArray) (hs : 200 < s.size) (α : Type) (k0 : Option α) (k1 : Int → Int → Int → Int → Int → Int → Int → Int → Option α) (k2 : Option α) : parse_Line s k0 k1 k2 = k0 := by
  unfold parse_Line parse_Line_T
  rw [dec_t (show (s.size : Int) > 200 by omega), cond_true]
def col : List ByteArray → List ByteArray → Int → Bool → List Int → Int × Bool × List Int
  | a :: V, w :: W, m, ok, ns =>
    bif a.data.toList == [35] then col V W m (ok && numOk w) (ns ++ [numI w])
    else bif a.data.toList == [64] then col V W (macP w).1 (ok && ((macP w).2 == 0)) ns
    else col V W m (ok && (w.data.toList == a.data.toList)) ns
  | _, _, m, ok, ns => (m, ok, ns)
def cnt : List ByteArray → Nat
  | [] => 0
  | a :: V => (bif a.data.toList == [35] then 1 else 0) + cnt V
theorem col_len : ∀ (V W : List ByteArray) (m : Int) (ok : Bool) (ns : List Int), V.length = W.length → (col V W m ok ns).2.2.length = ns.length + cnt V
  | [], [], m, ok, ns, h => rfl
  | a :: V, w :: W, m, ok, ns, h => by
    have h' : V.length = W.length := by simpa using h
    unfold col cnt
    cases a.data.toList == [35] with
    | true => rw [cond_true, cond_true, col_len V W _ _ _ h', List.length_append, List.length_singleton]; omega
    | false =>
      rw [cond_false, cond_false]
      cases a.data.toList == [64] with
      | true => rw [cond_true, col_len V W _ _ _ h']; omega
      | false => rw [cond_false, col_len V W _ _ _ h']; omega
theorem bnd8 {n : Nat} (h : n ≤ 1000000) : Nat.ble ((n + 1) * 8) bound = true := ble_true (by unfold bound; omega)
def mk : Nat → Int → List Int → Option C8
  | 0, m, ns => some ⟨1, 1, 0, ns.getD 0 0, 0, 0, 0, 0⟩
  | 1, m, ns => some ⟨1, 2, 0, ns.getD 0 0, 0, 0, 0, 0⟩
  | 2, m, ns => some ⟨1, 3, 0, ns.getD 0 0, 0, 0, 0, 0⟩
  | 3, m, ns => bif decide (ns.getD 0 0 ≤ 255) then some ⟨1, 4, ns.getD 0 0, 1, 0, 0, 0, 0⟩ else none
  | 4, m, ns => bif decide (ns.getD 0 0 ≤ 255) then some ⟨1, 4, ns.getD 0 0, 0, 0, 0, 0, 0⟩ else none
  | 5, m, ns => bif decide (ns.getD 0 0 ≤ 255) then some ⟨1, 5, ns.getD 0 0, ns.getD 1 0, 0, 0, 0, 0⟩ else none
  | 6, m, ns => bif decide (ns.getD 0 0 ≤ 255) then some ⟨1, 6, ns.getD 0 0, ns.getD 1 0, 0, 0, 0, 0⟩ else none
  | 7, m, ns => bif decide (ns.getD 1 0 ≤ 255) then bif decide (ns.getD 2 0 ≤ 255) then bif decide (ns.getD 0 0 ≤ 65535) then some ⟨1, 7, 0, 0, ns.getD 0 0, IntKind.u8.wrap (ns.getD 1 0), IntKind.u8.wrap (ns.getD 2 0), 0⟩ else none else none else none
  | 8, m, ns => bif decide (ns.getD 0 0 ≤ 65535) then some ⟨1, 8, 0, 0, ns.getD 0 0, 0, 0, 0⟩ else none
  | 9, m, ns => bif decide (ns.getD 1 0 ≤ 255) then bif decide (ns.getD 0 0 ≤ 65535) then some ⟨1, 9, ns.getD 1 0, 0, ns.getD 0 0, 0, 0, m⟩ else none else none
  | 10, m, ns => bif decide (ns.getD 0 0 ≤ 65535) then some ⟨1, 10, 0, 0, ns.getD 0 0, 0, 0, m⟩ else none
  | 11, m, ns => some ⟨2, 0, 0, 0, 0, 0, 0, 0⟩
  | 12, m, ns => some ⟨3, 0, 0, 0, 0, 0, 0, 0⟩
  | 13, m, ns => some ⟨4, 0, 0, 0, 0, 0, 0, 0⟩
  | 14, m, ns => some ⟨5, 0, 0, 0, 0, 0, 0, 0⟩
  | 15, m, ns => some ⟨6, 0, 0, 0, 0, 0, 0, 0⟩
  | _, _, _ => none
theorem nb_at {n : Nat} {g : Nat → Nat → PV} {ns : List Int} (h : NB n g ns) (j : Nat) (hj : j < ns.length) : numOf (g j 0) = ns.getD j 0 := by
  rw [h.2 j hj]; simp [List.getD, hj]
theorem cons_of {W : List ByteArray} {n : Nat} (h : W.length = n + 1) : ∃ a V, W = a :: V ∧ V.length = n := by
  cases W with
  | nil => simp at h
  | cons a V => exact ⟨a, V, rfl, by simpa using h⟩
def macT (x : Int) : ByteArray := (mac_Text x (fun b => some b)).getD ⟨#[]⟩
theorem macT_p (x : Int) (hx : 0 ≤ x) (α : Type) (k : ByteArray → Option α) : mac_Text x k = k (macT x) := by
  by_cases h : x < 281474976710656
  · obtain ⟨X, rfl⟩ : ∃ X : Nat, x = (X : Int) := ⟨x.toNat, by omega⟩
    unfold macT; rw [text_ex X (by omega), text_ex X (by omega)]; rfl
  · unfold macT mac_Text mac_Text_T
    rw [shr48 hx, dec_f h]
    rfl
theorem macT_nat (v : Nat) (hv : v < 281474976710656) : macT (v : Int) = ⟨(tl v).toArray⟩ := by
  unfold macT; rw [text_ex v hv]; rfl
theorem macT_cases (x : Int) (hx : 0 ≤ x) : (macT x).data.toList = [] ∨ ∃ v : Nat, v < 281474976710656 ∧ (macT x).data.toList = tl v := by
  by_cases h : x < 281474976710656
  · obtain ⟨X, rfl⟩ : ∃ X : Nat, x = (X : Int) := ⟨x.toNat, by omega⟩
    exact Or.inr ⟨X, by omega, by rw [macT_nat X (by omega)]⟩
  · left
    unfold macT mac_Text mac_Text_T
    rw [shr48 hx, dec_f h]
    rfl
theorem macP_good (s : ByteArray) (hs : s.size ≤ 200) (h : ((macP s).2 == 0) = true) : macT (macP s).1 = s ∧ 0 ≤ (macP s).1 := by
  rcases parse_cases s hs with h1 | ⟨v, hv, e, h1⟩
  · have : macP s = (0, 11) := by unfold macP; rw [h1]; rfl
    rw [this] at h; exact absurd h (by decide)
  · have : macP s = ((v : Int), 0) := by unfold macP; rw [h1]; rfl
    rw [this]
    refine ⟨?_, by show (0 : Int) ≤ (v : Int); omega⟩
    show macT (v : Int) = s
    rw [macT_nat v hv]; exact (ba_ext e).symm
theorem macP_empty {s : ByteArray} (h : s.data.toList = []) : ((macP s).2 == 0) = false := by
  have hz : s.size = 0 := by rw [← bl_size, h]; rfl
  rcases parse_cases s (by omega) with h1 | ⟨v, hv, e, h1⟩
  · have : macP s = (0, 11) := by unfold macP; rw [h1]; rfl
    rw [this]; rfl
  · rw [h] at e; exact absurd e (by unfold tl; simp)
theorem numOk_empty {s : ByteArray} (h : s.data.toList = []) : numOk s = false := by
  cases hb : numOk s with
  | false => rfl
  | true =>
    obtain ⟨u, _, hd⟩ := numOk_spec.1 hb
    rw [h] at hd; exact absurd hd.symm (dec_ne u)
theorem itoa_num {w : ByteArray} (h : numOk w = true) : itoaS (numI w) = w := by
  obtain ⟨u, hu, hd⟩ := numOk_spec.1 h
  have hv := numV_spec hd
  unfold numI
  rw [h, cond_true, hv]
  apply bl_inj
  rw [itoaS_eq (okI_spec.2 ⟨by omega, by omega⟩), hd]
  unfold Lib.itoa
  simp
theorem itoa_u8 {w : ByteArray} (h : numOk w = true) (hd : decide (numI w ≤ 255) = true) : itoaS (IntKind.u8.wrap (numI w)) = w := by
  have h1 := of_decide_eq_true hd
  have h0 : 0 ≤ numI w := by unfold numI; rw [h, cond_true]; omega
  rw [show IntKind.u8.wrap (numI w) = numI w by rw [wrap_u8]; omega]
  exact itoa_num h
theorem itoa_fit {x : Int} (h : okI x = true) : (itoaS x).size ≤ 20 ∧ (itoaS x).data.toList ≠ [] ∧ ∀ c ∈ (itoaS x).data.toList, c ≠ 32 := by
  obtain ⟨h1, h2⟩ := okI_spec.1 h
  have hl : (Lib.decDigits x.natAbs).length ≤ 19 := dec_len 18 _ (by omega)
  have ha := dec_all x.natAbs
  have hn := dec_ne x.natAbs
  have hd : ∀ c ∈ Lib.decDigits x.natAbs, c ≠ 32 := by
    intro c hc e
    subst e
    have := List.all_eq_true.1 ha _ hc
    exact absurd this (by decide)
  have e : (itoaS x).data.toList = bif decide (x < 0) then 45 :: Lib.decDigits x.natAbs else Lib.decDigits x.natAbs := by
    unfold itoaS
    rw [decL_eq (by omega)]
  rw [← bl_size, e]
  cases decide (x < 0) with
  | true =>
    rw [cond_true]
    refine ⟨by simp; omega, by simp, fun c hc => ?_⟩
    rcases List.mem_cons.1 hc with rfl | hc
    · decide
    · exact hd c hc
  | false => rw [cond_false]; exact ⟨by omega, hn, hd⟩
theorem H_32 (n : Nat) : H n ≠ 32 := by
  by_cases h : n < 16
  · have : (List.range 16).all (fun n => !(H n == 32)) = true := by kernel_rfl
    have := List.all_eq_true.1 this n (List.mem_range.2 h)
    intro e; rw [e] at this; exact absurd this (by decide)
  · have e : ([48, 49, 50, 51, 52, 53, 54, 55, 56, 57, 97, 98, 99, 100, 101, 102] : List UInt8)[n]? = none := List.getElem?_eq_none (by simp; omega)
    unfold H List.getD; rw [e]; decide
theorem macT_fit {x : Int} (h : 0 ≤ x) : (macT x).size ≤ 20 ∧ ∀ c ∈ (macT x).data.toList, c ≠ 32 := by
  rcases macT_cases x h with e | ⟨v, hv, e⟩
  · rw [← bl_size, e]; exact ⟨by simp, by simp⟩
  · rw [← bl_size, e]
    refine ⟨by unfold tl; simp, fun c hc => ?_⟩
    unfold tl at hc
    simp only [List.mem_cons, List.not_mem_nil, or_false] at hc
    rcases hc with rfl | rfl | rfl | rfl | rfl | rfl | rfl | rfl | rfl | rfl | rfl | rfl | rfl | rfl | rfl | rfl | rfl <;> first | exact H_32 _ | decide
theorem num_ok {w : ByteArray} (h : numOk w = true) : okI (numI w) = true := by
  obtain ⟨u, hu, hd⟩ := numOk_spec.1 h
  have hv := numV_spec hd
  unfold numI
  rw [h, cond_true, hv]
  exact okI_spec.2 ⟨by omega, by omega⟩
theorem u8_rng (x : Int) : 0 ≤ IntKind.u8.wrap x ∧ IntKind.u8.wrap x ≤ 255 := by rw [wrap_u8]; omega
structure CB (c : C8) : Prop where
  p : okI c.port = true
  n : okI c.num = true
  v : okI c.vlan = true
  m0 : 0 ≤ c.memb
  m1 : c.memb ≤ 255
  t0 : 0 ≤ c.tagd
  t1 : c.tagd ≤ 255
  a0 : 0 ≤ c.mac
theorem ok8 {x : Int} (h0 : 0 ≤ x) (h1 : x ≤ 255) : okI x = true := okI_spec.2 ⟨by omega, by omega⟩
def wrt (c : C8) (a : ByteArray) : ByteArray :=
  bif a.data.toList == [78] then itoaS c.num
  else bif a.data.toList == [80] then itoaS c.port
  else bif a.data.toList == [86] then itoaS c.vlan
  else bif a.data.toList == [77] then itoaS c.memb
  else bif a.data.toList == [84] then itoaS c.tagd
  else bif a.data.toList == [65] then macT c.mac
  else a
theorem write_eq {c : C8} (hc : CB c) (a : ByteArray) (α : Type) (k0 : ByteArray → Option α) : parse_Cmd_write c.what c.kind c.port c.num c.vlan c.memb c.tagd c.mac a k0 = k0 (wrt c a) := by
  unfold parse_Cmd_write parse_Cmd_write_T wrt
  have w6 : IntKind.i64.wrap c.memb = c.memb := i64_id (by have := hc.m0; omega) (by have := hc.m1; omega)
  have w7 : IntKind.i64.wrap c.tagd = c.tagd := i64_id (by have := hc.t0; omega) (by have := hc.t1; omega)
  rw [w6, w7, hc.n, hc.p, hc.v, ok8 hc.m0 hc.m1, ok8 hc.t0 hc.t1, macT_p c.mac hc.a0]
  simp only [beq_bl, cond_true]
  cases a.data.toList == [78] <;> cases a.data.toList == [80] <;> cases a.data.toList == [86] <;> cases a.data.toList == [77] <;> cases a.data.toList == [84] <;> cases a.data.toList == [65] <;> rfl
theorem wrt_fit {c : C8} (hc : CB c) {a : ByteArray} (h : a.size ≤ 20) (hn : a.data.toList ≠ []) (hb : ∀ x ∈ a.data.toList, x ≠ 32) : (wrt c a).size ≤ 20 ∧ (∀ x ∈ (wrt c a).data.toList, x ≠ 32) ∧ ((a.data.toList == [65]) = false → (wrt c a).data.toList ≠ []) := by
  have f1 := itoa_fit hc.n
  have f2 := itoa_fit hc.p
  have f3 := itoa_fit hc.v
  have f4 := itoa_fit (ok8 hc.m0 hc.m1)
  have f5 := itoa_fit (ok8 hc.t0 hc.t1)
  have f6 := macT_fit hc.a0
  unfold wrt
  cases a.data.toList == [78] with
  | true => rw [cond_true]; exact ⟨f1.1, f1.2.2, fun _ => f1.2.1⟩
  | false =>
  rw [cond_false]
  cases a.data.toList == [80] with
  | true => rw [cond_true]; exact ⟨f2.1, f2.2.2, fun _ => f2.2.1⟩
  | false =>
  rw [cond_false]
  cases a.data.toList == [86] with
  | true => rw [cond_true]; exact ⟨f3.1, f3.2.2, fun _ => f3.2.1⟩
  | false =>
  rw [cond_false]
  cases a.data.toList == [77] with
  | true => rw [cond_true]; exact ⟨f4.1, f4.2.2, fun _ => f4.2.1⟩
  | false =>
  rw [cond_false]
  cases a.data.toList == [84] with
  | true => rw [cond_true]; exact ⟨f5.1, f5.2.2, fun _ => f5.2.1⟩
  | false =>
  rw [cond_false]
  cases a.data.toList == [65] with
  | true => rw [cond_true]; exact ⟨f6.1, f6.2, fun h => by cases h⟩
  | false => rw [cond_false]; exact ⟨h, hb, fun _ => hn⟩
def wr (i : Nat) (c : C8) : List ByteArray := (Vs i).map (wrt c)
def vfit (a : ByteArray) : Bool := Nat.ble a.size 20 && !a.data.toList.isEmpty && a.data.toList.all (fun x => !(x == 32))
theorem vs_all : (List.range 16).all (fun i => Nat.ble (Vs i).length 6 && (Vs i).all vfit) = true := by kernel_rfl
theorem vs_fit (i : Nat) (hi : i < 16) : (Vs i).length ≤ 6 ∧ ∀ a ∈ Vs i, a.size ≤ 20 ∧ a.data.toList ≠ [] ∧ ∀ x ∈ a.data.toList, x ≠ 32 := by
  have h := List.all_eq_true.1 vs_all i (List.mem_range.2 hi)
  obtain ⟨h1, h2⟩ := (Bool.and_eq_true _ _).mp h
  refine ⟨Nat.le_of_ble_eq_true h1, fun a ha => ?_⟩
  have := List.all_eq_true.1 h2 a ha
  unfold vfit at this
  obtain ⟨h3, h4⟩ := (Bool.and_eq_true _ _).mp this
  obtain ⟨h5, h6⟩ := (Bool.and_eq_true _ _).mp h3
  refine ⟨Nat.le_of_ble_eq_true h5, fun e => by rw [e] at h6; exact absurd h6 (by decide), fun x hx e => ?_⟩
  have := List.all_eq_true.1 h4 x hx
  rw [e] at this; exact absurd this (by decide)
theorem wr_fit {i : Nat} (hi : i < 16) {c : C8} (hc : CB c) : (wr i c).length ≤ 6 ∧ (∀ w ∈ wr i c, w.size ≤ 20 ∧ ∀ x ∈ w.data.toList, x ≠ 32) ∧ ((∀ a ∈ Vs i, (a.data.toList == [65]) = false) → ∀ w ∈ wr i c, w.data.toList ≠ []) := by
  obtain ⟨h1, h2⟩ := vs_fit i hi
  refine ⟨by unfold wr; simpa using h1, fun w hw => ?_, fun hA w hw => ?_⟩
  · obtain ⟨a, ha, rfl⟩ := List.mem_map.1 hw
    obtain ⟨g1, g2, g3⟩ := h2 a ha
    exact ⟨(wrt_fit hc g1 g2 g3).1, (wrt_fit hc g1 g2 g3).2.1⟩
  · obtain ⟨a, ha, rfl⟩ := List.mem_map.1 hw
    obtain ⟨g1, g2, g3⟩ := h2 a ha
    exact (wrt_fit hc g1 g2 g3).2.2 (hA a ha)
theorem rd_empty {a w : ByteArray} (c : C8) (ha : a.data.toList ≠ []) (hw : w.data.toList = []) : rd a w c = none := by
  unfold rd
  rw [numOk_empty hw, macP_empty hw, hw]
  have : (([] : List UInt8) == a.data.toList) = false := by
    cases h : a.data.toList with
    | nil => exact absurd h ha
    | cons x l => rfl
  rw [this]
  cases a.data.toList == [78] <;> cases a.data.toList == [80] <;> cases a.data.toList == [86] <;> cases a.data.toList == [77] <;> cases a.data.toList == [84] <;> cases a.data.toList == [65] <;> rfl
theorem take_empty : ∀ (V W : List ByteArray) (c : C8), (∀ a ∈ V, a.data.toList ≠ []) → V.length = W.length → (∃ w ∈ W, w.data.toList = []) → takeF V W c = none
  | [], [], c, _, _, h => by obtain ⟨w, hw, _⟩ := h; cases hw
  | a :: V, w :: W, c, hV, hl, h => by
    unfold takeF
    obtain ⟨x, hx, he⟩ := h
    rcases List.mem_cons.1 hx with rfl | hx
    · rw [rd_empty c (hV a (List.mem_cons_self ..)) he]
    · cases rd a w c with
      | none => rfl
      | some c' => exact take_empty V W c' (fun b hb => hV b (List.mem_cons_of_mem _ hb)) (by simpa using hl) ⟨x, hx, he⟩
theorem tk_empty {i : Nat} (hi : i < 16) {W : List ByteArray} (h : ∃ w ∈ W, w.data.toList = []) : tk i W = none := by
  unfold tk
  cases hl : (Vs i).length == W.length with
  | false => rfl
  | true => exact take_empty _ _ _ (fun a ha => ((vs_fit i hi).2 a ha).2.1) (by simpa using hl) h
theorem TB.nil (f : Nat → Nat → PV) : TB 0 f [] := ⟨rfl, fun j h => absurd h (Nat.not_lt_zero j)⟩
theorem TB.snoc {n : Nat} {f : Nat → Nat → PV} {L : List ByteArray} (h : TB n f L) (b : ByteArray) : TB (n + 1) (catf n f (rowOf 1 [.val (.string b)])) (L ++ [b]) := by
  refine ⟨by simp [h.1], fun j hj => ?_⟩
  simp only [List.length_append, List.length_singleton] at hj
  have hn := h.1
  by_cases hl : j < L.length
  · rw [List.getElem_append_left hl]
    have : Nat.blt j n = true := Nat.ble_eq_true_of_le (by omega)
    show textOf (bif Nat.blt j n then f j 0 else _) = _
    rw [this, cond_true]
    exact h.2 j hl
  · obtain rfl : j = L.length := by omega
    have hb : Nat.blt L.length n = false := by
      cases hh : Nat.blt L.length n with
      | false => rfl
      | true => have := Nat.le_of_ble_eq_true hh; omega
    rw [List.getElem_append_right (Nat.le_refl _)]
    show textOf (bif Nat.blt L.length n then f L.length 0 else rowOf 1 [.val (.string b)] (L.length - n) 0) = _
    rw [hb, cond_false, show L.length - n = 0 by omega]
    simp
    rfl
theorem TB.tl {n : Nat} {f : Nat → Nat → PV} {L : List ByteArray} (h : TB n f L) : TL n f (L.map (·.data.toList)) := by
  refine ⟨by simp [h.1], fun j hj => ?_⟩
  have hj' : j < L.length := by simpa using hj
  rw [h.2 j hj', List.getElem_map]
theorem write_loop {N : Nat} {g : Nat → Nat → PV} {V : List ByteArray} (hV : TB N g V) (hN : N ≤ 1000) {c : C8} (hc : CB c) (z y1 y2 y3 y4 y5 y6 y7 y8 : Int) (t : ByteArray) (r : Nat → Nat → PV) (nl2 : Bool) : ∀ (d j fuel : Nat) (nl : Bool) (n : Nat) (f : Nat → Nat → PV) (A : List ByteArray), j + d = N → TB n f A → n ≤ j → d < fuel →
    ∃ nl' n' f', TB n' f' (A ++ (V.drop j).map (wrt c)) ∧ ∀ (α : Type) (k0 : Int → Int → Int → Int → Int → Int → Int → Int → Int → Int → Int → Int → Int → Int → Int → Int → Int → ByteArray → Bool → Nat → (Nat → Nat → PV) → (Nat → Nat → PV) → Option α), parse_Text_L2_v1_l0 k0 fuel z (N : Int) (j : Int) c.what c.kind c.port c.num c.vlan c.memb c.tagd c.mac y1 y2 y3 y4 y5 y6 y7 y8 t nl n f r nl2 N g = k0 z c.what c.kind c.port c.num c.vlan c.memb c.tagd c.mac y1 y2 y3 y4 y5 y6 y7 y8 t nl' n' f' r := by
  intro d
  induction d with
  | zero =>
    intro j fuel nl n f A hj hA hn hf
    obtain ⟨fuel, rfl⟩ : ∃ m, fuel = m + 1 := ⟨fuel - 1, by omega⟩
    obtain rfl : j = N := by omega
    refine ⟨nl, n, f, by rw [List.drop_eq_nil_of_le (by rw [hV.1]; exact Nat.le_refl _), List.map_nil, List.append_nil]; exact hA, fun α k0 => ?_⟩
    show parse_Text_L2_v1_s0 _ _ k0 z (j : Int) (j : Int) c.what c.kind c.port c.num c.vlan c.memb c.tagd c.mac y1 y2 y3 y4 y5 y6 y7 y8 t nl n f r nl2 j g = _
    unfold parse_Text_L2_v1_s0
    rw [dec_f (Int.lt_irrefl _), cond_false]
  | succ d ih =>
    intro j fuel nl n f A hj hA hn hf
    obtain ⟨fuel, rfl⟩ : ∃ m, fuel = m + 1 := ⟨fuel - 1, by omega⟩
    have hl : j < V.length := by rw [hV.1]; omega
    obtain ⟨nl', n', f', h1, h2⟩ := ih (j + 1) fuel (nl && false) (n + 1) _ _ (by omega) (hA.snoc (wrt c V[j])) (by omega) (by omega)
    refine ⟨nl', n', f', by rw [List.drop_eq_getElem_cons hl, List.map_cons]; rw [List.append_assoc] at h1; exact h1, fun α k0 => ?_⟩
    show parse_Text_L2_v1_s0 _ _ k0 z (N : Int) (j : Int) c.what c.kind c.port c.num c.vlan c.memb c.tagd c.mac y1 y2 y3 y4 y5 y6 y7 y8 t nl n f r nl2 N g = _
    unfold parse_Text_L2_v1_s0
    rw [dec_t (show (j : Int) < (N : Int) by omega), inb_t (show (0 : Int) ≤ (j : Int) by omega) (show (j : Int) < (N : Int) by omega), cond_true, cond_true, Int.toNat_natCast, hV.2 j hl, write_eq hc, bnd (by omega), cond_true, i64_id (by omega) (by omega)]
    exact h2 α k0
theorem idx_loop {n : Nat} {f : Nat → Nat → PV} {W : List ByteArray} (hW : TB n f W) (hn : n ≤ 1000) (nl : Bool) : ∀ (d j fuel : Nat), j + d = n → d < fuel →
    (∃ m : Int, (∃ w ∈ W, w.data.toList = []) ∧ ∀ (α : Type) (k0 : Int → Bool → Nat → (Nat → Nat → PV) → Option α) (k1 : Bool → Nat → (Nat → Nat → PV) → Option α), slices_Index_string_string_L0_l0 k0 k1 fuel (n : Int) (j : Int) nl n f = k0 m nl n f) ∨ ∀ (α : Type) (k0 : Int → Bool → Nat → (Nat → Nat → PV) → Option α) (k1 : Bool → Nat → (Nat → Nat → PV) → Option α), slices_Index_string_string_L0_l0 k0 k1 fuel (n : Int) (j : Int) nl n f = k1 nl n f
  | 0, j, fuel + 1, hj, hf => by
    right; intro α k0 k1
    obtain rfl : j = n := by omega
    show slices_Index_string_string_L0_s0 _ k0 k1 (j : Int) (j : Int) nl j f = _
    unfold slices_Index_string_string_L0_s0
    rw [dec_f (Int.lt_irrefl _), cond_false]
  | d + 1, j, fuel + 1, hj, hf => by
    have hl : j < W.length := by rw [hW.1]; omega
    have step : ∀ (α : Type) (k0 : Int → Bool → Nat → (Nat → Nat → PV) → Option α) (k1 : Bool → Nat → (Nat → Nat → PV) → Option α), slices_Index_string_string_L0_l0 k0 k1 (fuel + 1) (n : Int) (j : Int) nl n f = bif [] == W[j].data.toList then k0 (j : Int) nl n f else slices_Index_string_string_L0_l0 k0 k1 fuel (n : Int) ((j + 1 : Nat) : Int) nl n f := by
      intro α k0 k1
      show slices_Index_string_string_L0_s0 _ k0 k1 (n : Int) (j : Int) nl n f = _
      unfold slices_Index_string_string_L0_s0
      rw [dec_t (show (j : Int) < (n : Int) by omega), inb_t (show (0 : Int) ≤ (j : Int) by omega) (show (j : Int) < (n : Int) by omega), cond_true, cond_true, Int.toNat_natCast, hW.2 j hl, beq_bl, i64_id (by omega) (by omega)]
      rfl
    cases he : ([] == W[j].data.toList) with
    | true =>
      left
      exact ⟨(j : Int), ⟨W[j], List.getElem_mem hl, (eq_of_beq he).symm⟩, fun α k0 k1 => by rw [step, he, cond_true]⟩
    | false =>
      rcases idx_loop hW hn nl d (j + 1) fuel (by omega) (by omega) with ⟨m, h1, h2⟩ | h2
      · exact Or.inl ⟨m, h1, fun α k0 k1 => by rw [step, he, cond_false]; exact h2 α k0 k1⟩
      · exact Or.inr fun α k0 k1 => by rw [step, he, cond_false]; exact h2 α k0 k1
theorem idx_eq {n : Nat} {f : Nat → Nat → PV} {W : List ByteArray} (hW : TB n f W) (hn : n ≤ 1000) (nl : Bool) : ∃ m : Int, (0 ≤ m → ∃ w ∈ W, w.data.toList = []) ∧ ∀ (α : Type) (k : Int → Bool → Nat → (Nat → Nat → PV) → Option α), slices_Index_string_string nl n f k = k m nl n f := by
  unfold slices_Index_string_string slices_Index_string_string_T slices_Index_string_string_L0
  rcases idx_loop hW hn nl n 0 18446744073709551616 (by omega) (by omega) with ⟨m, h1, h2⟩ | h2
  · exact ⟨m, fun _ => h1, fun α k => h2 α _ _⟩
  · exact ⟨-1, fun h => absurd h (by decide), fun α k => h2 α _ _⟩
def jb (W : List ByteArray) : ByteArray := w2b (joinW (W.map (·.data.toList)))
def same8 (c d : C8) : Bool := e23 c.what d.what c.kind d.kind c.port d.port c.num d.num c.vlan d.vlan c.memb d.memb c.tagd d.tagd c.mac d.mac
def tx (i : Nat) (c : C8) : Option ByteArray := match tk i (wr i c) with
  | some d => bif same8 d c then some (jb (wr i c)) else none
  | none => none
def firstT (F : Nat → Option ByteArray) : Nat → Nat → Option ByteArray
  | _, 0 => none
  | i, d + 1 => match F i with
    | some c => some c
    | none => firstT F (i + 1) d
theorem textP_loop {c : C8} (hc : CB c) (α : Type) (k0 : ByteArray → Option α) (k1 : Option α) : ∀ (d i fuel : Nat), i + d = 16 → d < fuel →
    parse_Text_L0_l0 k0 k1 fuel (i : Int) c.what c.kind c.port c.num c.vlan c.memb c.tagd c.mac e1 = match firstT (fun j => tx j c) i d with
      | some t => k0 t
      | none => k1 := by
  intro d
  induction d with
  | zero =>
    intro i fuel hi hf
    obtain ⟨fuel, rfl⟩ : ∃ m, fuel = m + 1 := ⟨fuel - 1, by omega⟩
    obtain rfl : i = 16 := by omega
    show parse_Text_L0_s0 _ _ _ _ _ k0 k1 ((16 : Nat) : Int) c.what c.kind c.port c.num c.vlan c.memb c.tagd c.mac e1 = k1
    unfold parse_Text_L0_s0
    rw [dec_f (by omega), cond_false]
  | succ d ih =>
    intro i fuel hi hf
    obtain ⟨fuel, rfl⟩ : ∃ m, fuel = m + 1 := ⟨fuel - 1, by omega⟩
    have IH := ih (i + 1) fuel (by omega) (by omega)
    have i16 : i < 16 := by omega
    have hsz := short i i16
    obtain ⟨nl2, m, g, h1, h2⟩ := cutP (textOf (e1 i 8)) (by omega) (fun _ _ => .val undef)
    have hV : TB m g (Vs i) := TB.of h1
    have hm : m ≤ 6 := by rw [← hV.1]; exact (vs_fit i i16).1
    obtain ⟨nl, n, f, h3, h4⟩ := write_loop hV (by omega) hc (i : Int) (numOf (e1 i 0)) (numOf (e1 i 1)) (numOf (e1 i 2)) (numOf (e1 i 3)) (numOf (e1 i 4)) (numOf (e1 i 5)) (numOf (e1 i 6)) (numOf (e1 i 7)) (textOf (e1 i 8)) e1 nl2 m 0 18446744073709551616 true 0 (fun _ _ => .val undef) [] (by omega) (TB.nil _) (Nat.le_refl _) (by omega)
    rw [List.drop_zero, List.nil_append] at h3
    have hW : TB n f (wr i c) := h3
    obtain ⟨w1, w2, w3⟩ := wr_fit i16 hc
    have hn : n ≤ 6 := by rw [← hW.1]; exact w1
    obtain ⟨x, x1, x2⟩ := idx_eq hW (by omega) nl
    show parse_Text_L0_s0 _ _ _ _ _ k0 k1 (i : Int) c.what c.kind c.port c.num c.vlan c.memb c.tagd c.mac e1 = _
    unfold parse_Text_L0_s0
    rw [dec_t (show (i : Int) < 16 by omega), inb_t (show (0 : Int) ≤ (i : Int) by omega) (show (i : Int) < ((16 : Nat) : Int) by omega), cond_true, cond_true, Int.toNat_natCast, splitOk_of (by omega), cond_true, h2]
    unfold parse_Text_L2_v1
    refine (h4 α _).trans ?_
    rw [x2]
    rw [i64_id (show (-9223372036854775808 : Int) ≤ (i : Int) + 1 by omega) (by omega)]
    unfold firstT tx
    by_cases hx : 0 ≤ x
    · rw [dec_t (show x ≥ 0 from hx), cond_true, tk_empty i16 (x1 hx)]
      exact IH
    · rw [dec_f (show ¬ x ≥ 0 from hx), cond_false]
      refine (take_eq hW (by omega) (fun w hw => by have := (w2 w hw).1; omega) nl i i16 α _ _).trans ?_
      cases ht : tk i (wr i c) with
      | none => exact IH
      | some e =>
        show (bif same8 e c then (bif joinOk n f ⟨#[32]⟩ then k0 (joinS n f ⟨#[32]⟩) else none) else _) = _
        cases hs : same8 e c with
        | false => dsimp only; rw [hs]; exact IH
        | true =>
          have hb : bulk ((wr i c).map (·.data.toList)) ≤ 6 * 21 := by
            refine Nat.le_trans (bulk_le (m := 20) (fun w hw => ?_)) (Nat.mul_le_mul (by simpa using w1) (Nat.le_refl _))
            obtain ⟨b, hb, rfl⟩ := List.mem_map.1 hw
            exact (w2 b hb).1
          dsimp only
          rw [hs, cond_true, joinOk_of hW.tl (by omega), cond_true, joinS_eq hW.tl, cond_true]
          rfl
def textO (c : C8) : Option ByteArray := firstT (fun j => tx j c) 0 16
theorem textP {c : C8} (hc : CB c) (α : Type) (k0 : ByteArray → Option α) (k1 : Option α) : parse_Text c.what c.kind c.port c.num c.vlan c.memb c.tagd c.mac k0 k1 = match textO c with
      | some t => k0 t
      | none => k1 := textP_loop hc α (fun r => k0 r) k1 16 0 18446744073709551616 (by omega) (by omega)
theorem w2b_data (w : ByteArray) : w2b w.data.toList = w := bl_inj rfl
theorem wr_0 (c : C8) : wr 0 c = [w2b [112, 114, 105, 111, 114, 105, 116, 121], itoaS c.num] := by kernel_rfl
theorem wr_1 (c : C8) : wr 1 c = [w2b [97, 103, 101], itoaS c.num] := by kernel_rfl
theorem wr_2 (c : C8) : wr 2 c = [w2b [100, 101, 108, 97, 121], itoaS c.num] := by kernel_rfl
theorem wr_3 (c : C8) : wr 3 c = [w2b [112, 111, 114, 116], itoaS c.port, w2b [117, 112]] := by kernel_rfl
theorem wr_4 (c : C8) : wr 4 c = [w2b [112, 111, 114, 116], itoaS c.port, w2b [100, 111, 119, 110]] := by kernel_rfl
theorem wr_5 (c : C8) : wr 5 c = [w2b [112, 111, 114, 116], itoaS c.port, w2b [99, 111, 115, 116], itoaS c.num] := by kernel_rfl
theorem wr_6 (c : C8) : wr 6 c = [w2b [112, 111, 114, 116], itoaS c.port, w2b [112, 118, 105, 100], itoaS c.num] := by kernel_rfl
theorem wr_7 (c : C8) : wr 7 c = [w2b [118, 108, 97, 110], itoaS c.vlan, w2b [109, 101, 109, 98, 101, 114, 115], itoaS c.memb, w2b [116, 97, 103, 103, 101, 100], itoaS c.tagd] := by kernel_rfl
theorem wr_8 (c : C8) : wr 8 c = [w2b [110, 111], w2b [118, 108, 97, 110], itoaS c.vlan] := by kernel_rfl
theorem wr_9 (c : C8) : wr 9 c = [w2b [115, 116, 97, 116, 105, 99], macT c.mac, w2b [118, 108, 97, 110], itoaS c.vlan, w2b [112, 111, 114, 116], itoaS c.port] := by kernel_rfl
theorem wr_10 (c : C8) : wr 10 c = [w2b [110, 111], w2b [115, 116, 97, 116, 105, 99], macT c.mac, w2b [118, 108, 97, 110], itoaS c.vlan] := by kernel_rfl
theorem wr_11 (c : C8) : wr 11 c = [w2b [99, 111, 109, 109, 105, 116]] := by kernel_rfl
theorem wr_12 (c : C8) : wr 12 c = [w2b [114, 111, 108, 108, 98, 97, 99, 107]] := by kernel_rfl
theorem wr_13 (c : C8) : wr 13 c = [w2b [115, 104, 111, 119], w2b [99, 111, 110, 102, 105, 103]] := by kernel_rfl
theorem wr_14 (c : C8) : wr 14 c = [w2b [115, 104, 111, 119], w2b [112, 111, 114, 116, 115]] := by kernel_rfl
theorem wr_15 (c : C8) : wr 15 c = [w2b [115, 104, 111, 119], w2b [116, 97, 98, 108, 101]] := by kernel_rfl
theorem ex_0_1 (c : C8) : tk 1 (wr 0 c) = none := by kernel_rfl
theorem ex_0_2 (c : C8) : tk 2 (wr 0 c) = none := by kernel_rfl
theorem ex_0_3 (c : C8) : tk 3 (wr 0 c) = none := by kernel_rfl
theorem ex_0_4 (c : C8) : tk 4 (wr 0 c) = none := by kernel_rfl
theorem ex_0_5 (c : C8) : tk 5 (wr 0 c) = none := by kernel_rfl
theorem ex_0_6 (c : C8) : tk 6 (wr 0 c) = none := by kernel_rfl
theorem ex_0_7 (c : C8) : tk 7 (wr 0 c) = none := by kernel_rfl
theorem ex_0_8 (c : C8) : tk 8 (wr 0 c) = none := by kernel_rfl
theorem ex_0_9 (c : C8) : tk 9 (wr 0 c) = none := by kernel_rfl
theorem ex_0_10 (c : C8) : tk 10 (wr 0 c) = none := by kernel_rfl
theorem ex_0_11 (c : C8) : tk 11 (wr 0 c) = none := by kernel_rfl
theorem ex_0_12 (c : C8) : tk 12 (wr 0 c) = none := by kernel_rfl
theorem ex_0_13 (c : C8) : tk 13 (wr 0 c) = none := by kernel_rfl
theorem ex_0_14 (c : C8) : tk 14 (wr 0 c) = none := by kernel_rfl
theorem ex_0_15 (c : C8) : tk 15 (wr 0 c) = none := by kernel_rfl
theorem ex_1_0 (c : C8) : tk 0 (wr 1 c) = none := by kernel_rfl
theorem ex_1_2 (c : C8) : tk 2 (wr 1 c) = none := by kernel_rfl
theorem ex_1_3 (c : C8) : tk 3 (wr 1 c) = none := by kernel_rfl
theorem ex_1_4 (c : C8) : tk 4 (wr 1 c) = none := by kernel_rfl
theorem ex_1_5 (c : C8) : tk 5 (wr 1 c) = none := by kernel_rfl
theorem ex_1_6 (c : C8) : tk 6 (wr 1 c) = none := by kernel_rfl
theorem ex_1_7 (c : C8) : tk 7 (wr 1 c) = none := by kernel_rfl
theorem ex_1_8 (c : C8) : tk 8 (wr 1 c) = none := by kernel_rfl
theorem ex_1_9 (c : C8) : tk 9 (wr 1 c) = none := by kernel_rfl
theorem ex_1_10 (c : C8) : tk 10 (wr 1 c) = none := by kernel_rfl
theorem ex_1_11 (c : C8) : tk 11 (wr 1 c) = none := by kernel_rfl
theorem ex_1_12 (c : C8) : tk 12 (wr 1 c) = none := by kernel_rfl
theorem ex_1_13 (c : C8) : tk 13 (wr 1 c) = none := by kernel_rfl
theorem ex_1_14 (c : C8) : tk 14 (wr 1 c) = none := by kernel_rfl
theorem ex_1_15 (c : C8) : tk 15 (wr 1 c) = none := by kernel_rfl
theorem ex_2_0 (c : C8) : tk 0 (wr 2 c) = none := by kernel_rfl
theorem ex_2_1 (c : C8) : tk 1 (wr 2 c) = none := by kernel_rfl
theorem ex_2_3 (c : C8) : tk 3 (wr 2 c) = none := by kernel_rfl
theorem ex_2_4 (c : C8) : tk 4 (wr 2 c) = none := by kernel_rfl
theorem ex_2_5 (c : C8) : tk 5 (wr 2 c) = none := by kernel_rfl
theorem ex_2_6 (c : C8) : tk 6 (wr 2 c) = none := by kernel_rfl
theorem ex_2_7 (c : C8) : tk 7 (wr 2 c) = none := by kernel_rfl
theorem ex_2_8 (c : C8) : tk 8 (wr 2 c) = none := by kernel_rfl
theorem ex_2_9 (c : C8) : tk 9 (wr 2 c) = none := by kernel_rfl
theorem ex_2_10 (c : C8) : tk 10 (wr 2 c) = none := by kernel_rfl
theorem ex_2_11 (c : C8) : tk 11 (wr 2 c) = none := by kernel_rfl
theorem ex_2_12 (c : C8) : tk 12 (wr 2 c) = none := by kernel_rfl
theorem ex_2_13 (c : C8) : tk 13 (wr 2 c) = none := by kernel_rfl
theorem ex_2_14 (c : C8) : tk 14 (wr 2 c) = none := by kernel_rfl
theorem ex_2_15 (c : C8) : tk 15 (wr 2 c) = none := by kernel_rfl
theorem ex_3_0 (c : C8) : tk 0 (wr 3 c) = none := by kernel_rfl
theorem ex_3_1 (c : C8) : tk 1 (wr 3 c) = none := by kernel_rfl
theorem ex_3_2 (c : C8) : tk 2 (wr 3 c) = none := by kernel_rfl
theorem ex_3_4 (c : C8) : tk 4 (wr 3 c) = none := by 
  have e : tk 4 (wr 3 c) = ((bif numOk (itoaS c.port) && decide (numI (itoaS c.port) ≤ 255) then some ({ (ci 4) with port := numI (itoaS c.port) } : C8) else none).bind fun _ => none) := by kernel_rfl
  rw [e]; cases numOk (itoaS c.port) && decide (numI (itoaS c.port) ≤ 255) <;> rfl
theorem ex_3_5 (c : C8) : tk 5 (wr 3 c) = none := by kernel_rfl
theorem ex_3_6 (c : C8) : tk 6 (wr 3 c) = none := by kernel_rfl
theorem ex_3_7 (c : C8) : tk 7 (wr 3 c) = none := by kernel_rfl
theorem ex_3_8 (c : C8) : tk 8 (wr 3 c) = none := by kernel_rfl
theorem ex_3_9 (c : C8) : tk 9 (wr 3 c) = none := by kernel_rfl
theorem ex_3_10 (c : C8) : tk 10 (wr 3 c) = none := by kernel_rfl
theorem ex_3_11 (c : C8) : tk 11 (wr 3 c) = none := by kernel_rfl
theorem ex_3_12 (c : C8) : tk 12 (wr 3 c) = none := by kernel_rfl
theorem ex_3_13 (c : C8) : tk 13 (wr 3 c) = none := by kernel_rfl
theorem ex_3_14 (c : C8) : tk 14 (wr 3 c) = none := by kernel_rfl
theorem ex_3_15 (c : C8) : tk 15 (wr 3 c) = none := by kernel_rfl
theorem ex_4_0 (c : C8) : tk 0 (wr 4 c) = none := by kernel_rfl
theorem ex_4_1 (c : C8) : tk 1 (wr 4 c) = none := by kernel_rfl
theorem ex_4_2 (c : C8) : tk 2 (wr 4 c) = none := by kernel_rfl
theorem ex_4_3 (c : C8) : tk 3 (wr 4 c) = none := by 
  have e : tk 3 (wr 4 c) = ((bif numOk (itoaS c.port) && decide (numI (itoaS c.port) ≤ 255) then some ({ (ci 3) with port := numI (itoaS c.port) } : C8) else none).bind fun _ => none) := by kernel_rfl
  rw [e]; cases numOk (itoaS c.port) && decide (numI (itoaS c.port) ≤ 255) <;> rfl
theorem ex_4_5 (c : C8) : tk 5 (wr 4 c) = none := by kernel_rfl
theorem ex_4_6 (c : C8) : tk 6 (wr 4 c) = none := by kernel_rfl
theorem ex_4_7 (c : C8) : tk 7 (wr 4 c) = none := by kernel_rfl
theorem ex_4_8 (c : C8) : tk 8 (wr 4 c) = none := by kernel_rfl
theorem ex_4_9 (c : C8) : tk 9 (wr 4 c) = none := by kernel_rfl
theorem ex_4_10 (c : C8) : tk 10 (wr 4 c) = none := by kernel_rfl
theorem ex_4_11 (c : C8) : tk 11 (wr 4 c) = none := by kernel_rfl
theorem ex_4_12 (c : C8) : tk 12 (wr 4 c) = none := by kernel_rfl
theorem ex_4_13 (c : C8) : tk 13 (wr 4 c) = none := by kernel_rfl
theorem ex_4_14 (c : C8) : tk 14 (wr 4 c) = none := by kernel_rfl
theorem ex_4_15 (c : C8) : tk 15 (wr 4 c) = none := by kernel_rfl
theorem ex_5_0 (c : C8) : tk 0 (wr 5 c) = none := by kernel_rfl
theorem ex_5_1 (c : C8) : tk 1 (wr 5 c) = none := by kernel_rfl
theorem ex_5_2 (c : C8) : tk 2 (wr 5 c) = none := by kernel_rfl
theorem ex_5_3 (c : C8) : tk 3 (wr 5 c) = none := by kernel_rfl
theorem ex_5_4 (c : C8) : tk 4 (wr 5 c) = none := by kernel_rfl
theorem ex_5_6 (c : C8) : tk 6 (wr 5 c) = none := by 
  have e : tk 6 (wr 5 c) = ((bif numOk (itoaS c.port) && decide (numI (itoaS c.port) ≤ 255) then some ({ (ci 6) with port := numI (itoaS c.port) } : C8) else none).bind fun _ => none) := by kernel_rfl
  rw [e]; cases numOk (itoaS c.port) && decide (numI (itoaS c.port) ≤ 255) <;> rfl
theorem ex_5_7 (c : C8) : tk 7 (wr 5 c) = none := by kernel_rfl
theorem ex_5_8 (c : C8) : tk 8 (wr 5 c) = none := by kernel_rfl
theorem ex_5_9 (c : C8) : tk 9 (wr 5 c) = none := by kernel_rfl
theorem ex_5_10 (c : C8) : tk 10 (wr 5 c) = none := by kernel_rfl
theorem ex_5_11 (c : C8) : tk 11 (wr 5 c) = none := by kernel_rfl
theorem ex_5_12 (c : C8) : tk 12 (wr 5 c) = none := by kernel_rfl
theorem ex_5_13 (c : C8) : tk 13 (wr 5 c) = none := by kernel_rfl
theorem ex_5_14 (c : C8) : tk 14 (wr 5 c) = none := by kernel_rfl
theorem ex_5_15 (c : C8) : tk 15 (wr 5 c) = none := by kernel_rfl
theorem ex_6_0 (c : C8) : tk 0 (wr 6 c) = none := by kernel_rfl
theorem ex_6_1 (c : C8) : tk 1 (wr 6 c) = none := by kernel_rfl
theorem ex_6_2 (c : C8) : tk 2 (wr 6 c) = none := by kernel_rfl
theorem ex_6_3 (c : C8) : tk 3 (wr 6 c) = none := by kernel_rfl
theorem ex_6_4 (c : C8) : tk 4 (wr 6 c) = none := by kernel_rfl
theorem ex_6_5 (c : C8) : tk 5 (wr 6 c) = none := by 
  have e : tk 5 (wr 6 c) = ((bif numOk (itoaS c.port) && decide (numI (itoaS c.port) ≤ 255) then some ({ (ci 5) with port := numI (itoaS c.port) } : C8) else none).bind fun _ => none) := by kernel_rfl
  rw [e]; cases numOk (itoaS c.port) && decide (numI (itoaS c.port) ≤ 255) <;> rfl
theorem ex_6_7 (c : C8) : tk 7 (wr 6 c) = none := by kernel_rfl
theorem ex_6_8 (c : C8) : tk 8 (wr 6 c) = none := by kernel_rfl
theorem ex_6_9 (c : C8) : tk 9 (wr 6 c) = none := by kernel_rfl
theorem ex_6_10 (c : C8) : tk 10 (wr 6 c) = none := by kernel_rfl
theorem ex_6_11 (c : C8) : tk 11 (wr 6 c) = none := by kernel_rfl
theorem ex_6_12 (c : C8) : tk 12 (wr 6 c) = none := by kernel_rfl
theorem ex_6_13 (c : C8) : tk 13 (wr 6 c) = none := by kernel_rfl
theorem ex_6_14 (c : C8) : tk 14 (wr 6 c) = none := by kernel_rfl
theorem ex_6_15 (c : C8) : tk 15 (wr 6 c) = none := by kernel_rfl
theorem ex_7_0 (c : C8) : tk 0 (wr 7 c) = none := by kernel_rfl
theorem ex_7_1 (c : C8) : tk 1 (wr 7 c) = none := by kernel_rfl
theorem ex_7_2 (c : C8) : tk 2 (wr 7 c) = none := by kernel_rfl
theorem ex_7_3 (c : C8) : tk 3 (wr 7 c) = none := by kernel_rfl
theorem ex_7_4 (c : C8) : tk 4 (wr 7 c) = none := by kernel_rfl
theorem ex_7_5 (c : C8) : tk 5 (wr 7 c) = none := by kernel_rfl
theorem ex_7_6 (c : C8) : tk 6 (wr 7 c) = none := by kernel_rfl
theorem ex_7_8 (c : C8) : tk 8 (wr 7 c) = none := by kernel_rfl
theorem ex_7_9 (c : C8) : tk 9 (wr 7 c) = none := by kernel_rfl
theorem ex_7_10 (c : C8) : tk 10 (wr 7 c) = none := by kernel_rfl
theorem ex_7_11 (c : C8) : tk 11 (wr 7 c) = none := by kernel_rfl
theorem ex_7_12 (c : C8) : tk 12 (wr 7 c) = none := by kernel_rfl
theorem ex_7_13 (c : C8) : tk 13 (wr 7 c) = none := by kernel_rfl
theorem ex_7_14 (c : C8) : tk 14 (wr 7 c) = none := by kernel_rfl
theorem ex_7_15 (c : C8) : tk 15 (wr 7 c) = none := by kernel_rfl
theorem ex_8_0 (c : C8) : tk 0 (wr 8 c) = none := by kernel_rfl
theorem ex_8_1 (c : C8) : tk 1 (wr 8 c) = none := by kernel_rfl
theorem ex_8_2 (c : C8) : tk 2 (wr 8 c) = none := by kernel_rfl
theorem ex_8_3 (c : C8) : tk 3 (wr 8 c) = none := by kernel_rfl
theorem ex_8_4 (c : C8) : tk 4 (wr 8 c) = none := by kernel_rfl
theorem ex_8_5 (c : C8) : tk 5 (wr 8 c) = none := by kernel_rfl
theorem ex_8_6 (c : C8) : tk 6 (wr 8 c) = none := by kernel_rfl
theorem ex_8_7 (c : C8) : tk 7 (wr 8 c) = none := by kernel_rfl
theorem ex_8_9 (c : C8) : tk 9 (wr 8 c) = none := by kernel_rfl
theorem ex_8_10 (c : C8) : tk 10 (wr 8 c) = none := by kernel_rfl
theorem ex_8_11 (c : C8) : tk 11 (wr 8 c) = none := by kernel_rfl
theorem ex_8_12 (c : C8) : tk 12 (wr 8 c) = none := by kernel_rfl
theorem ex_8_13 (c : C8) : tk 13 (wr 8 c) = none := by kernel_rfl
theorem ex_8_14 (c : C8) : tk 14 (wr 8 c) = none := by kernel_rfl
theorem ex_8_15 (c : C8) : tk 15 (wr 8 c) = none := by kernel_rfl
theorem ex_9_0 (c : C8) : tk 0 (wr 9 c) = none := by kernel_rfl
theorem ex_9_1 (c : C8) : tk 1 (wr 9 c) = none := by kernel_rfl
theorem ex_9_2 (c : C8) : tk 2 (wr 9 c) = none := by kernel_rfl
theorem ex_9_3 (c : C8) : tk 3 (wr 9 c) = none := by kernel_rfl
theorem ex_9_4 (c : C8) : tk 4 (wr 9 c) = none := by kernel_rfl
theorem ex_9_5 (c : C8) : tk 5 (wr 9 c) = none := by kernel_rfl
theorem ex_9_6 (c : C8) : tk 6 (wr 9 c) = none := by kernel_rfl
theorem ex_9_7 (c : C8) : tk 7 (wr 9 c) = none := by kernel_rfl
theorem ex_9_8 (c : C8) : tk 8 (wr 9 c) = none := by kernel_rfl
theorem ex_9_10 (c : C8) : tk 10 (wr 9 c) = none := by kernel_rfl
theorem ex_9_11 (c : C8) : tk 11 (wr 9 c) = none := by kernel_rfl
theorem ex_9_12 (c : C8) : tk 12 (wr 9 c) = none := by kernel_rfl
theorem ex_9_13 (c : C8) : tk 13 (wr 9 c) = none := by kernel_rfl
theorem ex_9_14 (c : C8) : tk 14 (wr 9 c) = none := by kernel_rfl
theorem ex_9_15 (c : C8) : tk 15 (wr 9 c) = none := by kernel_rfl
theorem ex_10_0 (c : C8) : tk 0 (wr 10 c) = none := by kernel_rfl
theorem ex_10_1 (c : C8) : tk 1 (wr 10 c) = none := by kernel_rfl
theorem ex_10_2 (c : C8) : tk 2 (wr 10 c) = none := by kernel_rfl
theorem ex_10_3 (c : C8) : tk 3 (wr 10 c) = none := by kernel_rfl
theorem ex_10_4 (c : C8) : tk 4 (wr 10 c) = none := by kernel_rfl
theorem ex_10_5 (c : C8) : tk 5 (wr 10 c) = none := by kernel_rfl
theorem ex_10_6 (c : C8) : tk 6 (wr 10 c) = none := by kernel_rfl
theorem ex_10_7 (c : C8) : tk 7 (wr 10 c) = none := by kernel_rfl
theorem ex_10_8 (c : C8) : tk 8 (wr 10 c) = none := by kernel_rfl
theorem ex_10_9 (c : C8) : tk 9 (wr 10 c) = none := by kernel_rfl
theorem ex_10_11 (c : C8) : tk 11 (wr 10 c) = none := by kernel_rfl
theorem ex_10_12 (c : C8) : tk 12 (wr 10 c) = none := by kernel_rfl
theorem ex_10_13 (c : C8) : tk 13 (wr 10 c) = none := by kernel_rfl
theorem ex_10_14 (c : C8) : tk 14 (wr 10 c) = none := by kernel_rfl
theorem ex_10_15 (c : C8) : tk 15 (wr 10 c) = none := by kernel_rfl
theorem ex_11_0 (c : C8) : tk 0 (wr 11 c) = none := by kernel_rfl
theorem ex_11_1 (c : C8) : tk 1 (wr 11 c) = none := by kernel_rfl
theorem ex_11_2 (c : C8) : tk 2 (wr 11 c) = none := by kernel_rfl
theorem ex_11_3 (c : C8) : tk 3 (wr 11 c) = none := by kernel_rfl
theorem ex_11_4 (c : C8) : tk 4 (wr 11 c) = none := by kernel_rfl
theorem ex_11_5 (c : C8) : tk 5 (wr 11 c) = none := by kernel_rfl
theorem ex_11_6 (c : C8) : tk 6 (wr 11 c) = none := by kernel_rfl
theorem ex_11_7 (c : C8) : tk 7 (wr 11 c) = none := by kernel_rfl
theorem ex_11_8 (c : C8) : tk 8 (wr 11 c) = none := by kernel_rfl
theorem ex_11_9 (c : C8) : tk 9 (wr 11 c) = none := by kernel_rfl
theorem ex_11_10 (c : C8) : tk 10 (wr 11 c) = none := by kernel_rfl
theorem ex_11_12 (c : C8) : tk 12 (wr 11 c) = none := by kernel_rfl
theorem ex_11_13 (c : C8) : tk 13 (wr 11 c) = none := by kernel_rfl
theorem ex_11_14 (c : C8) : tk 14 (wr 11 c) = none := by kernel_rfl
theorem ex_11_15 (c : C8) : tk 15 (wr 11 c) = none := by kernel_rfl
theorem ex_12_0 (c : C8) : tk 0 (wr 12 c) = none := by kernel_rfl
theorem ex_12_1 (c : C8) : tk 1 (wr 12 c) = none := by kernel_rfl
theorem ex_12_2 (c : C8) : tk 2 (wr 12 c) = none := by kernel_rfl
theorem ex_12_3 (c : C8) : tk 3 (wr 12 c) = none := by kernel_rfl
theorem ex_12_4 (c : C8) : tk 4 (wr 12 c) = none := by kernel_rfl
theorem ex_12_5 (c : C8) : tk 5 (wr 12 c) = none := by kernel_rfl
theorem ex_12_6 (c : C8) : tk 6 (wr 12 c) = none := by kernel_rfl
theorem ex_12_7 (c : C8) : tk 7 (wr 12 c) = none := by kernel_rfl
theorem ex_12_8 (c : C8) : tk 8 (wr 12 c) = none := by kernel_rfl
theorem ex_12_9 (c : C8) : tk 9 (wr 12 c) = none := by kernel_rfl
theorem ex_12_10 (c : C8) : tk 10 (wr 12 c) = none := by kernel_rfl
theorem ex_12_11 (c : C8) : tk 11 (wr 12 c) = none := by kernel_rfl
theorem ex_12_13 (c : C8) : tk 13 (wr 12 c) = none := by kernel_rfl
theorem ex_12_14 (c : C8) : tk 14 (wr 12 c) = none := by kernel_rfl
theorem ex_12_15 (c : C8) : tk 15 (wr 12 c) = none := by kernel_rfl
theorem ex_13_0 (c : C8) : tk 0 (wr 13 c) = none := by kernel_rfl
theorem ex_13_1 (c : C8) : tk 1 (wr 13 c) = none := by kernel_rfl
theorem ex_13_2 (c : C8) : tk 2 (wr 13 c) = none := by kernel_rfl
theorem ex_13_3 (c : C8) : tk 3 (wr 13 c) = none := by kernel_rfl
theorem ex_13_4 (c : C8) : tk 4 (wr 13 c) = none := by kernel_rfl
theorem ex_13_5 (c : C8) : tk 5 (wr 13 c) = none := by kernel_rfl
theorem ex_13_6 (c : C8) : tk 6 (wr 13 c) = none := by kernel_rfl
theorem ex_13_7 (c : C8) : tk 7 (wr 13 c) = none := by kernel_rfl
theorem ex_13_8 (c : C8) : tk 8 (wr 13 c) = none := by kernel_rfl
theorem ex_13_9 (c : C8) : tk 9 (wr 13 c) = none := by kernel_rfl
theorem ex_13_10 (c : C8) : tk 10 (wr 13 c) = none := by kernel_rfl
theorem ex_13_11 (c : C8) : tk 11 (wr 13 c) = none := by kernel_rfl
theorem ex_13_12 (c : C8) : tk 12 (wr 13 c) = none := by kernel_rfl
theorem ex_13_14 (c : C8) : tk 14 (wr 13 c) = none := by kernel_rfl
theorem ex_13_15 (c : C8) : tk 15 (wr 13 c) = none := by kernel_rfl
theorem ex_14_0 (c : C8) : tk 0 (wr 14 c) = none := by kernel_rfl
theorem ex_14_1 (c : C8) : tk 1 (wr 14 c) = none := by kernel_rfl
theorem ex_14_2 (c : C8) : tk 2 (wr 14 c) = none := by kernel_rfl
theorem ex_14_3 (c : C8) : tk 3 (wr 14 c) = none := by kernel_rfl
theorem ex_14_4 (c : C8) : tk 4 (wr 14 c) = none := by kernel_rfl
theorem ex_14_5 (c : C8) : tk 5 (wr 14 c) = none := by kernel_rfl
theorem ex_14_6 (c : C8) : tk 6 (wr 14 c) = none := by kernel_rfl
theorem ex_14_7 (c : C8) : tk 7 (wr 14 c) = none := by kernel_rfl
theorem ex_14_8 (c : C8) : tk 8 (wr 14 c) = none := by kernel_rfl
theorem ex_14_9 (c : C8) : tk 9 (wr 14 c) = none := by kernel_rfl
theorem ex_14_10 (c : C8) : tk 10 (wr 14 c) = none := by kernel_rfl
theorem ex_14_11 (c : C8) : tk 11 (wr 14 c) = none := by kernel_rfl
theorem ex_14_12 (c : C8) : tk 12 (wr 14 c) = none := by kernel_rfl
theorem ex_14_13 (c : C8) : tk 13 (wr 14 c) = none := by kernel_rfl
theorem ex_14_15 (c : C8) : tk 15 (wr 14 c) = none := by kernel_rfl
theorem ex_15_0 (c : C8) : tk 0 (wr 15 c) = none := by kernel_rfl
theorem ex_15_1 (c : C8) : tk 1 (wr 15 c) = none := by kernel_rfl
theorem ex_15_2 (c : C8) : tk 2 (wr 15 c) = none := by kernel_rfl
theorem ex_15_3 (c : C8) : tk 3 (wr 15 c) = none := by kernel_rfl
theorem ex_15_4 (c : C8) : tk 4 (wr 15 c) = none := by kernel_rfl
theorem ex_15_5 (c : C8) : tk 5 (wr 15 c) = none := by kernel_rfl
theorem ex_15_6 (c : C8) : tk 6 (wr 15 c) = none := by kernel_rfl
theorem ex_15_7 (c : C8) : tk 7 (wr 15 c) = none := by kernel_rfl
theorem ex_15_8 (c : C8) : tk 8 (wr 15 c) = none := by kernel_rfl
theorem ex_15_9 (c : C8) : tk 9 (wr 15 c) = none := by kernel_rfl
theorem ex_15_10 (c : C8) : tk 10 (wr 15 c) = none := by kernel_rfl
theorem ex_15_11 (c : C8) : tk 11 (wr 15 c) = none := by kernel_rfl
theorem ex_15_12 (c : C8) : tk 12 (wr 15 c) = none := by kernel_rfl
theorem ex_15_13 (c : C8) : tk 13 (wr 15 c) = none := by kernel_rfl
theorem ex_15_14 (c : C8) : tk 14 (wr 15 c) = none := by kernel_rfl
theorem excl (c : C8) (i j : Nat) (hi : i < 16) (hj : j < 16) (hne : j ≠ i) : tk j (wr i c) = none := by
  match i, hi, j, hj with
  | 0, _, 0, _ => exact absurd rfl hne
  | 0, _, 1, _ => exact ex_0_1 c
  | 0, _, 2, _ => exact ex_0_2 c
  | 0, _, 3, _ => exact ex_0_3 c
  | 0, _, 4, _ => exact ex_0_4 c
  | 0, _, 5, _ => exact ex_0_5 c
  | 0, _, 6, _ => exact ex_0_6 c
  | 0, _, 7, _ => exact ex_0_7 c
  | 0, _, 8, _ => exact ex_0_8 c
  | 0, _, 9, _ => exact ex_0_9 c
  | 0, _, 10, _ => exact ex_0_10 c
  | 0, _, 11, _ => exact ex_0_11 c
  | 0, _, 12, _ => exact ex_0_12 c
  | 0, _, 13, _ => exact ex_0_13 c
  | 0, _, 14, _ => exact ex_0_14 c
  | 0, _, 15, _ => exact ex_0_15 c
  | 1, _, 0, _ => exact ex_1_0 c
  | 1, _, 1, _ => exact absurd rfl hne
  | 1, _, 2, _ => exact ex_1_2 c
  | 1, _, 3, _ => exact ex_1_3 c
  | 1, _, 4, _ => exact ex_1_4 c
  | 1, _, 5, _ => exact ex_1_5 c
  | 1, _, 6, _ => exact ex_1_6 c
  | 1, _, 7, _ => exact ex_1_7 c
  | 1, _, 8, _ => exact ex_1_8 c
  | 1, _, 9, _ => exact ex_1_9 c
  | 1, _, 10, _ => exact ex_1_10 c
  | 1, _, 11, _ => exact ex_1_11 c
  | 1, _, 12, _ => exact ex_1_12 c
  | 1, _, 13, _ => exact ex_1_13 c
  | 1, _, 14, _ => exact ex_1_14 c
  | 1, _, 15, _ => exact ex_1_15 c
  | 2, _, 0, _ => exact ex_2_0 c
  | 2, _, 1, _ => exact ex_2_1 c
  | 2, _, 2, _ => exact absurd rfl hne
  | 2, _, 3, _ => exact ex_2_3 c
  | 2, _, 4, _ => exact ex_2_4 c
  | 2, _, 5, _ => exact ex_2_5 c
  | 2, _, 6, _ => exact ex_2_6 c
  | 2, _, 7, _ => exact ex_2_7 c
  | 2, _, 8, _ => exact ex_2_8 c
  | 2, _, 9, _ => exact ex_2_9 c
  | 2, _, 10, _ => exact ex_2_10 c
  | 2, _, 11, _ => exact ex_2_11 c
  | 2, _, 12, _ => exact ex_2_12 c
  | 2, _, 13, _ => exact ex_2_13 c
  | 2, _, 14, _ => exact ex_2_14 c
  | 2, _, 15, _ => exact ex_2_15 c
  | 3, _, 0, _ => exact ex_3_0 c
  | 3, _, 1, _ => exact ex_3_1 c
  | 3, _, 2, _ => exact ex_3_2 c
  | 3, _, 3, _ => exact absurd rfl hne
  | 3, _, 4, _ => exact ex_3_4 c
  | 3, _, 5, _ => exact ex_3_5 c
  | 3, _, 6, _ => exact ex_3_6 c
  | 3, _, 7, _ => exact ex_3_7 c
  | 3, _, 8, _ => exact ex_3_8 c
  | 3, _, 9, _ => exact ex_3_9 c
  | 3, _, 10, _ => exact ex_3_10 c
  | 3, _, 11, _ => exact ex_3_11 c
  | 3, _, 12, _ => exact ex_3_12 c
  | 3, _, 13, _ => exact ex_3_13 c
  | 3, _, 14, _ => exact ex_3_14 c
  | 3, _, 15, _ => exact ex_3_15 c
  | 4, _, 0, _ => exact ex_4_0 c
  | 4, _, 1, _ => exact ex_4_1 c
  | 4, _, 2, _ => exact ex_4_2 c
  | 4, _, 3, _ => exact ex_4_3 c
  | 4, _, 4, _ => exact absurd rfl hne
  | 4, _, 5, _ => exact ex_4_5 c
  | 4, _, 6, _ => exact ex_4_6 c
  | 4, _, 7, _ => exact ex_4_7 c
  | 4, _, 8, _ => exact ex_4_8 c
  | 4, _, 9, _ => exact ex_4_9 c
  | 4, _, 10, _ => exact ex_4_10 c
  | 4, _, 11, _ => exact ex_4_11 c
  | 4, _, 12, _ => exact ex_4_12 c
  | 4, _, 13, _ => exact ex_4_13 c
  | 4, _, 14, _ => exact ex_4_14 c
  | 4, _, 15, _ => exact ex_4_15 c
  | 5, _, 0, _ => exact ex_5_0 c
  | 5, _, 1, _ => exact ex_5_1 c
  | 5, _, 2, _ => exact ex_5_2 c
  | 5, _, 3, _ => exact ex_5_3 c
  | 5, _, 4, _ => exact ex_5_4 c
  | 5, _, 5, _ => exact absurd rfl hne
  | 5, _, 6, _ => exact ex_5_6 c
  | 5, _, 7, _ => exact ex_5_7 c
  | 5, _, 8, _ => exact ex_5_8 c
  | 5, _, 9, _ => exact ex_5_9 c
  | 5, _, 10, _ => exact ex_5_10 c
  | 5, _, 11, _ => exact ex_5_11 c
  | 5, _, 12, _ => exact ex_5_12 c
  | 5, _, 13, _ => exact ex_5_13 c
  | 5, _, 14, _ => exact ex_5_14 c
  | 5, _, 15, _ => exact ex_5_15 c
  | 6, _, 0, _ => exact ex_6_0 c
  | 6, _, 1, _ => exact ex_6_1 c
  | 6, _, 2, _ => exact ex_6_2 c
  | 6, _, 3, _ => exact ex_6_3 c
  | 6, _, 4, _ => exact ex_6_4 c
  | 6, _, 5, _ => exact ex_6_5 c
  | 6, _, 6, _ => exact absurd rfl hne
  | 6, _, 7, _ => exact ex_6_7 c
  | 6, _, 8, _ => exact ex_6_8 c
  | 6, _, 9, _ => exact ex_6_9 c
  | 6, _, 10, _ => exact ex_6_10 c
  | 6, _, 11, _ => exact ex_6_11 c
  | 6, _, 12, _ => exact ex_6_12 c
  | 6, _, 13, _ => exact ex_6_13 c
  | 6, _, 14, _ => exact ex_6_14 c
  | 6, _, 15, _ => exact ex_6_15 c
  | 7, _, 0, _ => exact ex_7_0 c
  | 7, _, 1, _ => exact ex_7_1 c
  | 7, _, 2, _ => exact ex_7_2 c
  | 7, _, 3, _ => exact ex_7_3 c
  | 7, _, 4, _ => exact ex_7_4 c
  | 7, _, 5, _ => exact ex_7_5 c
  | 7, _, 6, _ => exact ex_7_6 c
  | 7, _, 7, _ => exact absurd rfl hne
  | 7, _, 8, _ => exact ex_7_8 c
  | 7, _, 9, _ => exact ex_7_9 c
  | 7, _, 10, _ => exact ex_7_10 c
  | 7, _, 11, _ => exact ex_7_11 c
  | 7, _, 12, _ => exact ex_7_12 c
  | 7, _, 13, _ => exact ex_7_13 c
  | 7, _, 14, _ => exact ex_7_14 c
  | 7, _, 15, _ => exact ex_7_15 c
  | 8, _, 0, _ => exact ex_8_0 c
  | 8, _, 1, _ => exact ex_8_1 c
  | 8, _, 2, _ => exact ex_8_2 c
  | 8, _, 3, _ => exact ex_8_3 c
  | 8, _, 4, _ => exact ex_8_4 c
  | 8, _, 5, _ => exact ex_8_5 c
  | 8, _, 6, _ => exact ex_8_6 c
  | 8, _, 7, _ => exact ex_8_7 c
  | 8, _, 8, _ => exact absurd rfl hne
  | 8, _, 9, _ => exact ex_8_9 c
  | 8, _, 10, _ => exact ex_8_10 c
  | 8, _, 11, _ => exact ex_8_11 c
  | 8, _, 12, _ => exact ex_8_12 c
  | 8, _, 13, _ => exact ex_8_13 c
  | 8, _, 14, _ => exact ex_8_14 c
  | 8, _, 15, _ => exact ex_8_15 c
  | 9, _, 0, _ => exact ex_9_0 c
  | 9, _, 1, _ => exact ex_9_1 c
  | 9, _, 2, _ => exact ex_9_2 c
  | 9, _, 3, _ => exact ex_9_3 c
  | 9, _, 4, _ => exact ex_9_4 c
  | 9, _, 5, _ => exact ex_9_5 c
  | 9, _, 6, _ => exact ex_9_6 c
  | 9, _, 7, _ => exact ex_9_7 c
  | 9, _, 8, _ => exact ex_9_8 c
  | 9, _, 9, _ => exact absurd rfl hne
  | 9, _, 10, _ => exact ex_9_10 c
  | 9, _, 11, _ => exact ex_9_11 c
  | 9, _, 12, _ => exact ex_9_12 c
  | 9, _, 13, _ => exact ex_9_13 c
  | 9, _, 14, _ => exact ex_9_14 c
  | 9, _, 15, _ => exact ex_9_15 c
  | 10, _, 0, _ => exact ex_10_0 c
  | 10, _, 1, _ => exact ex_10_1 c
  | 10, _, 2, _ => exact ex_10_2 c
  | 10, _, 3, _ => exact ex_10_3 c
  | 10, _, 4, _ => exact ex_10_4 c
  | 10, _, 5, _ => exact ex_10_5 c
  | 10, _, 6, _ => exact ex_10_6 c
  | 10, _, 7, _ => exact ex_10_7 c
  | 10, _, 8, _ => exact ex_10_8 c
  | 10, _, 9, _ => exact ex_10_9 c
  | 10, _, 10, _ => exact absurd rfl hne
  | 10, _, 11, _ => exact ex_10_11 c
  | 10, _, 12, _ => exact ex_10_12 c
  | 10, _, 13, _ => exact ex_10_13 c
  | 10, _, 14, _ => exact ex_10_14 c
  | 10, _, 15, _ => exact ex_10_15 c
  | 11, _, 0, _ => exact ex_11_0 c
  | 11, _, 1, _ => exact ex_11_1 c
  | 11, _, 2, _ => exact ex_11_2 c
  | 11, _, 3, _ => exact ex_11_3 c
  | 11, _, 4, _ => exact ex_11_4 c
  | 11, _, 5, _ => exact ex_11_5 c
  | 11, _, 6, _ => exact ex_11_6 c
  | 11, _, 7, _ => exact ex_11_7 c
  | 11, _, 8, _ => exact ex_11_8 c
  | 11, _, 9, _ => exact ex_11_9 c
  | 11, _, 10, _ => exact ex_11_10 c
  | 11, _, 11, _ => exact absurd rfl hne
  | 11, _, 12, _ => exact ex_11_12 c
  | 11, _, 13, _ => exact ex_11_13 c
  | 11, _, 14, _ => exact ex_11_14 c
  | 11, _, 15, _ => exact ex_11_15 c
  | 12, _, 0, _ => exact ex_12_0 c
  | 12, _, 1, _ => exact ex_12_1 c
  | 12, _, 2, _ => exact ex_12_2 c
  | 12, _, 3, _ => exact ex_12_3 c
  | 12, _, 4, _ => exact ex_12_4 c
  | 12, _, 5, _ => exact ex_12_5 c
  | 12, _, 6, _ => exact ex_12_6 c
  | 12, _, 7, _ => exact ex_12_7 c
  | 12, _, 8, _ => exact ex_12_8 c
  | 12, _, 9, _ => exact ex_12_9 c
  | 12, _, 10, _ => exact ex_12_10 c
  | 12, _, 11, _ => exact ex_12_11 c
  | 12, _, 12, _ => exact absurd rfl hne
  | 12, _, 13, _ => exact ex_12_13 c
  | 12, _, 14, _ => exact ex_12_14 c
  | 12, _, 15, _ => exact ex_12_15 c
  | 13, _, 0, _ => exact ex_13_0 c
  | 13, _, 1, _ => exact ex_13_1 c
  | 13, _, 2, _ => exact ex_13_2 c
  | 13, _, 3, _ => exact ex_13_3 c
  | 13, _, 4, _ => exact ex_13_4 c
  | 13, _, 5, _ => exact ex_13_5 c
  | 13, _, 6, _ => exact ex_13_6 c
  | 13, _, 7, _ => exact ex_13_7 c
  | 13, _, 8, _ => exact ex_13_8 c
  | 13, _, 9, _ => exact ex_13_9 c
  | 13, _, 10, _ => exact ex_13_10 c
  | 13, _, 11, _ => exact ex_13_11 c
  | 13, _, 12, _ => exact ex_13_12 c
  | 13, _, 13, _ => exact absurd rfl hne
  | 13, _, 14, _ => exact ex_13_14 c
  | 13, _, 15, _ => exact ex_13_15 c
  | 14, _, 0, _ => exact ex_14_0 c
  | 14, _, 1, _ => exact ex_14_1 c
  | 14, _, 2, _ => exact ex_14_2 c
  | 14, _, 3, _ => exact ex_14_3 c
  | 14, _, 4, _ => exact ex_14_4 c
  | 14, _, 5, _ => exact ex_14_5 c
  | 14, _, 6, _ => exact ex_14_6 c
  | 14, _, 7, _ => exact ex_14_7 c
  | 14, _, 8, _ => exact ex_14_8 c
  | 14, _, 9, _ => exact ex_14_9 c
  | 14, _, 10, _ => exact ex_14_10 c
  | 14, _, 11, _ => exact ex_14_11 c
  | 14, _, 12, _ => exact ex_14_12 c
  | 14, _, 13, _ => exact ex_14_13 c
  | 14, _, 14, _ => exact absurd rfl hne
  | 14, _, 15, _ => exact ex_14_15 c
  | 15, _, 0, _ => exact ex_15_0 c
  | 15, _, 1, _ => exact ex_15_1 c
  | 15, _, 2, _ => exact ex_15_2 c
  | 15, _, 3, _ => exact ex_15_3 c
  | 15, _, 4, _ => exact ex_15_4 c
  | 15, _, 5, _ => exact ex_15_5 c
  | 15, _, 6, _ => exact ex_15_6 c
  | 15, _, 7, _ => exact ex_15_7 c
  | 15, _, 8, _ => exact ex_15_8 c
  | 15, _, 9, _ => exact ex_15_9 c
  | 15, _, 10, _ => exact ex_15_10 c
  | 15, _, 11, _ => exact ex_15_11 c
  | 15, _, 12, _ => exact ex_15_12 c
  | 15, _, 13, _ => exact ex_15_13 c
  | 15, _, 14, _ => exact ex_15_14 c
  | 15, _, 15, _ => exact absurd rfl hne
  | n + 16, h, _, _ => omega
  | 0, _, n + 16, h => omega
  | 1, _, n + 16, h => omega
  | 2, _, n + 16, h => omega
  | 3, _, n + 16, h => omega
  | 4, _, n + 16, h => omega
  | 5, _, n + 16, h => omega
  | 6, _, n + 16, h => omega
  | 7, _, n + 16, h => omega
  | 8, _, n + 16, h => omega
  | 9, _, n + 16, h => omega
  | 10, _, n + 16, h => omega
  | 11, _, n + 16, h => omega
  | 12, _, n + 16, h => omega
  | 13, _, n + 16, h => omega
  | 14, _, n + 16, h => omega
  | 15, _, n + 16, h => omega
theorem first_at {F : Nat → Option C8} {i : Nat} : ∀ (d k : Nat), (∀ j, k ≤ j → j < k + d → j ≠ i → F j = none) → first F k d = (if k ≤ i ∧ i < k + d then F i else none)
  | 0, k, h => by rw [if_neg (by omega)]; rfl
  | d + 1, k, h => by
    unfold first
    by_cases e : k = i
    · subst e
      rw [if_pos (by omega), first_at d (k + 1) (fun j h1 h2 h3 => h j (by omega) (by omega) h3), if_neg (by omega)]
      cases F k <;> rfl
    · rw [h k (Nat.le_refl _) (by omega) e]
      show first F (k + 1) d = _
      rw [first_at d (k + 1) (fun j h1 h2 h3 => h j (by omega) (by omega) h3)]
      by_cases hh : k ≤ i ∧ i < k + (d + 1)
      · rw [if_pos hh, if_pos (by omega)]
      · rw [if_neg hh, if_neg (by omega)]
theorem find_only (c : C8) (i : Nat) (hi : i < 16) : find (wr i c) = tk i (wr i c) := by
  unfold find
  rw [first_at (i := i) 16 0 (fun j _ h2 h3 => excl c i j hi (by omega) h3), if_pos (by omega)]
theorem f9 (x y : ByteArray) : find [w2b [115, 116, 97, 116, 105, 99], w2b [118, 108, 97, 110], x, w2b [112, 111, 114, 116], y] = none := by kernel_rfl
theorem f10 (x : ByteArray) : find [w2b [110, 111], w2b [115, 116, 97, 116, 105, 99], w2b [118, 108, 97, 110], x] = none := by kernel_rfl
theorem noA (i : Nat) (hi : i < 16) (h9 : i ≠ 9) (h10 : i ≠ 10) : ∀ a ∈ Vs i, (a.data.toList == [65]) = false := by
  have h : (List.range 16).all (fun i => i == 9 || i == 10 || (Vs i).all (fun a => !(a.data.toList == [65]))) = true := by kernel_rfl
  have h1 := List.all_eq_true.1 h i (List.mem_range.2 hi)
  rw [show (i == 9) = false from beq_false_of_ne h9, show (i == 10) = false from beq_false_of_ne h10, Bool.false_or, Bool.false_or] at h1
  intro a ha
  have := List.all_eq_true.1 h1 a ha
  cases hh : a.data.toList == [65] with
  | false => rfl
  | true => rw [hh] at this; exact absurd this (by decide)
theorem ne_keep : ∀ {L : List (List UInt8)}, (∀ w ∈ L, w ≠ []) → ne L = L
  | [], _ => rfl
  | x :: L, h => by
    rw [ne_cons, ne_keep (fun w hw => h w (List.mem_cons_of_mem _ hw))]
    cases x with
    | nil => exact absurd rfl (h [] (List.mem_cons_self ..))
    | cons a l => rfl
theorem find_wr {c : C8} (hc : CB c) (i : Nat) (hi : i < 16) : find ((ne ((wr i c).map (·.data.toList))).map w2b) = tk i (wr i c) := by
  obtain ⟨w1, w2, w3⟩ := wr_fit hi hc
  by_cases hE : ∃ w ∈ wr i c, w.data.toList = []
  · rw [tk_empty hi hE]
    have f1 := (itoa_fit hc.v).2.1
    have f2 := (itoa_fit hc.p).2.1
    have g1 : (itoaS c.vlan).data.toList.isEmpty = false := by cases h : (itoaS c.vlan).data.toList with | nil => exact absurd h f1 | cons a l => rfl
    have g2 : (itoaS c.port).data.toList.isEmpty = false := by cases h : (itoaS c.port).data.toList with | nil => exact absurd h f2 | cons a l => rfl
    have n1 : ne [(itoaS c.vlan).data.toList] = [(itoaS c.vlan).data.toList] := ne_keep (by simpa using f1)
    have n2 : ne [(itoaS c.port).data.toList] = [(itoaS c.port).data.toList] := ne_keep (by simpa using f2)
    by_cases h9 : i = 9
    · subst h9
      rw [wr_9] at hE ⊢
      have hm : (macT c.mac).data.toList = [] := by
        obtain ⟨w, hw, he⟩ := hE
        simp only [List.mem_cons, List.not_mem_nil, or_false] at hw
        rcases hw with rfl | rfl | rfl | rfl | rfl | rfl
        · exact absurd he (by decide)
        · exact he
        · exact absurd he (by decide)
        · exact absurd he f1
        · exact absurd he (by decide)
        · exact absurd he f2
      have e : ne ([w2b [115, 116, 97, 116, 105, 99], macT c.mac, w2b [118, 108, 97, 110], itoaS c.vlan, w2b [112, 111, 114, 116], itoaS c.port].map (·.data.toList)) = [[115, 116, 97, 116, 105, 99], [118, 108, 97, 110]] ++ ne [(itoaS c.vlan).data.toList] ++ [[112, 111, 114, 116]] ++ ne [(itoaS c.port).data.toList] := by
        show ne [[115, 116, 97, 116, 105, 99], (macT c.mac).data.toList, [118, 108, 97, 110], (itoaS c.vlan).data.toList, [112, 111, 114, 116], (itoaS c.port).data.toList] = _
        rw [hm]
        simp [ne_cons, g1, g2, ne_nil]
      rw [e, n1, n2]
      show find [w2b [115, 116, 97, 116, 105, 99], w2b [118, 108, 97, 110], w2b (itoaS c.vlan).data.toList, w2b [112, 111, 114, 116], w2b (itoaS c.port).data.toList] = none
      exact f9 _ _
    by_cases h10 : i = 10
    · subst h10
      rw [wr_10] at hE ⊢
      have hm : (macT c.mac).data.toList = [] := by
        obtain ⟨w, hw, he⟩ := hE
        simp only [List.mem_cons, List.not_mem_nil, or_false] at hw
        rcases hw with rfl | rfl | rfl | rfl | rfl
        · exact absurd he (by decide)
        · exact absurd he (by decide)
        · exact he
        · exact absurd he (by decide)
        · exact absurd he f1
      have e : ne ([w2b [110, 111], w2b [115, 116, 97, 116, 105, 99], macT c.mac, w2b [118, 108, 97, 110], itoaS c.vlan].map (·.data.toList)) = [[110, 111], [115, 116, 97, 116, 105, 99], [118, 108, 97, 110]] ++ ne [(itoaS c.vlan).data.toList] := by
        show ne [[110, 111], [115, 116, 97, 116, 105, 99], (macT c.mac).data.toList, [118, 108, 97, 110], (itoaS c.vlan).data.toList] = _
        rw [hm]
        simp [ne_cons, g1, ne_nil]
      rw [e, n1]
      show find [w2b [110, 111], w2b [115, 116, 97, 116, 105, 99], w2b [118, 108, 97, 110], w2b (itoaS c.vlan).data.toList] = none
      exact f10 _
    · obtain ⟨w, hw, he⟩ := hE
      exact absurd he (w3 (noA i hi h9 h10) w hw)
  · have : ne ((wr i c).map (·.data.toList)) = (wr i c).map (·.data.toList) := ne_keep fun w hw e => by
      obtain ⟨b, hb, rfl⟩ := List.mem_map.1 hw
      exact hE ⟨b, hb, e⟩
    rw [this, List.map_map, show (w2b ∘ fun (w : ByteArray) => w.data.toList) = id from funext w2b_data, List.map_id]
    exact find_only c i hi
def tl8 (i : Nat) (c : C8) : ByteArray := w2b (joinW (ne ((wr i c).map (·.data.toList))))
theorem line_wr {c : C8} (hc : CB c) (i : Nat) (hi : i < 16) : (tl8 i c).size ≤ 126 ∧ find (WB (tl8 i c)) = tk i (wr i c) := by
  obtain ⟨w1, w2, w3⟩ := wr_fit hi hc
  have hg : Ve.Good (ne ((wr i c).map (·.data.toList))) := fun w hw => by
    have hw' := List.mem_filter.1 hw
    obtain ⟨b, hb, rfl⟩ := List.mem_map.1 hw'.1
    refine ⟨fun e => ?_, (w2 b hb).2⟩
    have := hw'.2
    rw [e] at this; exact absurd this (by decide)
  refine ⟨?_, ?_⟩
  · have hb : bulk ((wr i c).map (·.data.toList)) ≤ 6 * 21 := by
      refine Nat.le_trans (bulk_le (m := 20) (fun w hw => ?_)) (Nat.mul_le_mul (by simpa using w1) (Nat.le_refl _))
      obtain ⟨b, hb, rfl⟩ := List.mem_map.1 hw
      exact (w2 b hb).1
    have h1 := bulk_ne ((wr i c).map (·.data.toList))
    have h2 := joinW_len (ne ((wr i c).map (·.data.toList)))
    show (joinW (ne ((wr i c).map (·.data.toList)))).toArray.size ≤ 126
    simp only [List.size_toArray]
    omega
  · unfold WB
    show find ((words (joinW (ne ((wr i c).map (·.data.toList))))).map w2b) = _
    rw [words_join _ hg]
    exact find_wr hc i hi
def jn (s w : ByteArray) : ByteArray := w2b (joinW (ne [s.data.toList, w.data.toList]))
theorem jn_size (s w : ByteArray) : (jn s w).size ≤ s.size + w.size + 2 := by
  have h1 := bulk_ne [s.data.toList, w.data.toList]
  have h2 := joinW_len (ne [s.data.toList, w.data.toList])
  show (joinW (ne [s.data.toList, w.data.toList])).toArray.size ≤ _
  simp only [List.size_toArray]
  have h3 : bulk [s.data.toList, w.data.toList] = s.data.toList.length + 1 + (w.data.toList.length + 1 + 0) := rfl
  rw [h3] at h1
  rw [bl_size, bl_size] at h1
  omega
def rwr (m : Int) : List ByteArray → List Int → List ByteArray
  | a :: S, ns => bif a.data.toList == [35] then itoaS (ns.headD 0) :: rwr m S ns.tail else bif a.data.toList == [64] then macT m :: rwr m S ns else a :: rwr m S ns
  | [], _ => []
def jns (s : ByteArray) (L : List ByteArray) : ByteArray := L.foldl jn s
theorem jns_eq : ∀ (L : List ByteArray) (s : ByteArray) (A : List (List UInt8)), s.data.toList = joinW (ne A) → Good' (ne A) → (jns s L).data.toList = joinW (ne (A ++ L.map (·.data.toList)))
  | [], s, A, h, hg => by rw [List.map_nil, List.append_nil]; exact h
  | w :: L, s, A, h, hg => by
    have hA : ne (A ++ [w.data.toList]) = ne A ++ ne [w.data.toList] := ne_append _ _
    have e : (jn s w).data.toList = joinW (ne (A ++ [w.data.toList])) := by
      show joinW (ne [s.data.toList, w.data.toList]) = _
      rw [hA, h, ne_cons]
      cases hne : (joinW (ne A)).isEmpty with
      | true =>
        have : ne A = [] := by
          have := joinW_empty hg
          rw [hne] at this
          exact List.isEmpty_iff.1 this.symm
        rw [this]; rfl
      | false =>
        have hnn : ne A ≠ [] := fun e => by rw [e] at hne; exact absurd hne (by decide)
        rw [cond_false]
        cases hw : w.data.toList with
        | nil => show joinW [joinW (ne A)] = joinW (ne A ++ []); rw [joinW_one, List.append_nil]
        | cons x l =>
          show joinW [joinW (ne A), x :: l] = joinW (ne A ++ [x :: l])
          rw [joinW_two, joinW_one, joinW_snoc _ _ hnn]
    have hg' : Good' (ne (A ++ [w.data.toList])) := fun x hx => by
      have := (List.mem_filter.1 hx).2
      intro e; rw [e] at this; exact absurd this (by decide)
    have := jns_eq L (jn s w) (A ++ [w.data.toList]) e hg'
    rw [List.append_assoc] at this
    exact this
def KK {α : Type} (GL : ByteArray → Option α → (Int → Int → Int → Int → Int → Int → Int → Int → Option α) → Option α → Option α) (rec0 : Int → Int → Int → Int → Int → Int → Int → Int → Int → (Nat → Nat → PV) → Option α) (k0 : ByteArray → Option α) : Int → ByteArray → Int → Int → Int → Int → Int → Int → Int → Int → (Nat → Nat → PV) → Option α := fun r_11 r_12 r_13 r_14 r_15 r_16 r_17 r_18 r_19 r_20 r_21 => GL r_12 (rec0 (IntKind.i64.wrap (r_11 + 1)) r_13 r_14 r_15 r_16 r_17 r_18 r_19 r_20 r_21) (fun r_22 r_23 r_24 r_25 r_26 r_27 r_28 r_29 => bif e23 r_22 r_13 r_23 r_14 r_24 r_15 r_25 r_16 r_26 r_17 r_27 r_18 r_28 r_19 r_29 r_20 then k0 r_12 else rec0 (IntKind.i64.wrap (r_11 + 1)) r_13 r_14 r_15 r_16 r_17 r_18 r_19 r_20 r_21) (rec0 (IntKind.i64.wrap (r_11 + 1)) r_13 r_14 r_15 r_16 r_17 r_18 r_19 r_20 r_21)
theorem KK_eq {α : Type} (GL : ByteArray → Option α → (Int → Int → Int → Int → Int → Int → Int → Int → Option α) → Option α → Option α) (rec0 : Int → Int → Int → Int → Int → Int → Int → Int → Int → (Nat → Nat → PV) → Option α) (k0 : ByteArray → Option α) (i : Int) (t : ByteArray) (c : C8) (r : Nat → Nat → PV) : KK GL rec0 k0 i t c.what c.kind c.port c.num c.vlan c.memb c.tagd c.mac r = GL t (rec0 (IntKind.i64.wrap (i + 1)) c.what c.kind c.port c.num c.vlan c.memb c.tagd c.mac r) (fun r_22 r_23 r_24 r_25 r_26 r_27 r_28 r_29 => bif same8 ⟨r_22, r_23, r_24, r_25, r_26, r_27, r_28, r_29⟩ c then k0 t else rec0 (IntKind.i64.wrap (i + 1)) c.what c.kind c.port c.num c.vlan c.memb c.tagd c.mac r) (rec0 (IntKind.i64.wrap (i + 1)) c.what c.kind c.port c.num c.vlan c.memb c.tagd c.mac r) := rfl
theorem and_l {a b : Bool} (h : (a && b) = true) : a = true := ((Bool.and_eq_true _ _).mp h).1
theorem and_r {a b : Bool} (h : (a && b) = true) : b = true := ((Bool.and_eq_true _ _).mp h).2
theorem lit_eq {w : ByteArray} {l : List UInt8} (h : (w.data.toList == l) = true) : w2b l = w := by
  rw [← eq_of_beq h]; exact w2b_data w
def Back (i : Nat) (W : List ByteArray) (c : C8) : Prop := wr i c = W ∧ CB c
theorem cb_0 : CB (ci 0) where
  p := by kernel_rfl
  n := by kernel_rfl
  v := by kernel_rfl
  m0 := by have h : (ci 0).memb = 0 := (by kernel_rfl); rw [h]; decide
  m1 := by have h : (ci 0).memb = 0 := (by kernel_rfl); rw [h]; decide
  t0 := by have h : (ci 0).tagd = 0 := (by kernel_rfl); rw [h]; decide
  t1 := by have h : (ci 0).tagd = 0 := (by kernel_rfl); rw [h]; decide
  a0 := by have h : (ci 0).mac = 0 := (by kernel_rfl); rw [h]; decide
theorem back_0 (W : List ByteArray) (hs : ∀ w ∈ W, w.size ≤ 200) (c : C8) (h : tk 0 W = some c) : Back 0 W c := by
  by_cases hl : W.length = 2
  · have t0 := hl
    obtain ⟨w0, W0, y0, t1⟩ := cons_of t0
    obtain ⟨w1, W1, y1, t2⟩ := cons_of t1
    obtain rfl := List.length_eq_zero_iff.1 t2
    subst y1 y0
    have l : tk 0 [w0, w1] = ((bif w0.data.toList == [112, 114, 105, 111, 114, 105, 116, 121] then some ((ci 0) : C8) else none).bind fun c0 => (bif numOk w1 then some ({ c0 with num := numI w1 } : C8) else none).bind fun c1 => some c1) := by kernel_rfl
    rw [l] at h
    cases h0 : (w0.data.toList == [112, 114, 105, 111, 114, 105, 116, 121]) with
    | false => rw [h0] at h; exact absurd h (by intro q; cases q)
    | true =>
    rw [h0] at h; simp only [cond_true, Option.bind_some] at h
    cases h1 : (numOk w1) with
    | false => rw [h1] at h; exact absurd h (by intro q; cases q)
    | true =>
    rw [h1] at h; simp only [cond_true, Option.bind_some] at h
    obtain rfl := Option.some.inj h
    refine ⟨?_, ?_⟩
    · show [w2b [112, 114, 105, 111, 114, 105, 116, 121], itoaS (numI w1)] = [w0, w1]
      rw [lit_eq h0, itoa_num h1]
    · exact { p := cb_0.p, n := num_ok h1, v := cb_0.v, m0 := cb_0.m0, m1 := cb_0.m1, t0 := cb_0.t0, t1 := cb_0.t1, a0 := cb_0.a0 }
  · unfold tk at h
    rw [show ((Vs 0).length == W.length) = false by rw [show (Vs 0).length = 2 by kernel_rfl]; exact beq_false_of_ne (fun e => hl e.symm)] at h
    cases h
theorem cb_1 : CB (ci 1) where
  p := by kernel_rfl
  n := by kernel_rfl
  v := by kernel_rfl
  m0 := by have h : (ci 1).memb = 0 := (by kernel_rfl); rw [h]; decide
  m1 := by have h : (ci 1).memb = 0 := (by kernel_rfl); rw [h]; decide
  t0 := by have h : (ci 1).tagd = 0 := (by kernel_rfl); rw [h]; decide
  t1 := by have h : (ci 1).tagd = 0 := (by kernel_rfl); rw [h]; decide
  a0 := by have h : (ci 1).mac = 0 := (by kernel_rfl); rw [h]; decide
theorem back_1 (W : List ByteArray) (hs : ∀ w ∈ W, w.size ≤ 200) (c : C8) (h : tk 1 W = some c) : Back 1 W c := by
  by_cases hl : W.length = 2
  · have t0 := hl
    obtain ⟨w0, W0, y0, t1⟩ := cons_of t0
    obtain ⟨w1, W1, y1, t2⟩ := cons_of t1
    obtain rfl := List.length_eq_zero_iff.1 t2
    subst y1 y0
    have l : tk 1 [w0, w1] = ((bif w0.data.toList == [97, 103, 101] then some ((ci 1) : C8) else none).bind fun c0 => (bif numOk w1 then some ({ c0 with num := numI w1 } : C8) else none).bind fun c1 => some c1) := by kernel_rfl
    rw [l] at h
    cases h0 : (w0.data.toList == [97, 103, 101]) with
    | false => rw [h0] at h; exact absurd h (by intro q; cases q)
    | true =>
    rw [h0] at h; simp only [cond_true, Option.bind_some] at h
    cases h1 : (numOk w1) with
    | false => rw [h1] at h; exact absurd h (by intro q; cases q)
    | true =>
    rw [h1] at h; simp only [cond_true, Option.bind_some] at h
    obtain rfl := Option.some.inj h
    refine ⟨?_, ?_⟩
    · show [w2b [97, 103, 101], itoaS (numI w1)] = [w0, w1]
      rw [lit_eq h0, itoa_num h1]
    · exact { p := cb_1.p, n := num_ok h1, v := cb_1.v, m0 := cb_1.m0, m1 := cb_1.m1, t0 := cb_1.t0, t1 := cb_1.t1, a0 := cb_1.a0 }
  · unfold tk at h
    rw [show ((Vs 1).length == W.length) = false by rw [show (Vs 1).length = 2 by kernel_rfl]; exact beq_false_of_ne (fun e => hl e.symm)] at h
    cases h
theorem cb_2 : CB (ci 2) where
  p := by kernel_rfl
  n := by kernel_rfl
  v := by kernel_rfl
  m0 := by have h : (ci 2).memb = 0 := (by kernel_rfl); rw [h]; decide
  m1 := by have h : (ci 2).memb = 0 := (by kernel_rfl); rw [h]; decide
  t0 := by have h : (ci 2).tagd = 0 := (by kernel_rfl); rw [h]; decide
  t1 := by have h : (ci 2).tagd = 0 := (by kernel_rfl); rw [h]; decide
  a0 := by have h : (ci 2).mac = 0 := (by kernel_rfl); rw [h]; decide
theorem back_2 (W : List ByteArray) (hs : ∀ w ∈ W, w.size ≤ 200) (c : C8) (h : tk 2 W = some c) : Back 2 W c := by
  by_cases hl : W.length = 2
  · have t0 := hl
    obtain ⟨w0, W0, y0, t1⟩ := cons_of t0
    obtain ⟨w1, W1, y1, t2⟩ := cons_of t1
    obtain rfl := List.length_eq_zero_iff.1 t2
    subst y1 y0
    have l : tk 2 [w0, w1] = ((bif w0.data.toList == [100, 101, 108, 97, 121] then some ((ci 2) : C8) else none).bind fun c0 => (bif numOk w1 then some ({ c0 with num := numI w1 } : C8) else none).bind fun c1 => some c1) := by kernel_rfl
    rw [l] at h
    cases h0 : (w0.data.toList == [100, 101, 108, 97, 121]) with
    | false => rw [h0] at h; exact absurd h (by intro q; cases q)
    | true =>
    rw [h0] at h; simp only [cond_true, Option.bind_some] at h
    cases h1 : (numOk w1) with
    | false => rw [h1] at h; exact absurd h (by intro q; cases q)
    | true =>
    rw [h1] at h; simp only [cond_true, Option.bind_some] at h
    obtain rfl := Option.some.inj h
    refine ⟨?_, ?_⟩
    · show [w2b [100, 101, 108, 97, 121], itoaS (numI w1)] = [w0, w1]
      rw [lit_eq h0, itoa_num h1]
    · exact { p := cb_2.p, n := num_ok h1, v := cb_2.v, m0 := cb_2.m0, m1 := cb_2.m1, t0 := cb_2.t0, t1 := cb_2.t1, a0 := cb_2.a0 }
  · unfold tk at h
    rw [show ((Vs 2).length == W.length) = false by rw [show (Vs 2).length = 2 by kernel_rfl]; exact beq_false_of_ne (fun e => hl e.symm)] at h
    cases h
theorem cb_3 : CB (ci 3) where
  p := by kernel_rfl
  n := by kernel_rfl
  v := by kernel_rfl
  m0 := by have h : (ci 3).memb = 0 := (by kernel_rfl); rw [h]; decide
  m1 := by have h : (ci 3).memb = 0 := (by kernel_rfl); rw [h]; decide
  t0 := by have h : (ci 3).tagd = 0 := (by kernel_rfl); rw [h]; decide
  t1 := by have h : (ci 3).tagd = 0 := (by kernel_rfl); rw [h]; decide
  a0 := by have h : (ci 3).mac = 0 := (by kernel_rfl); rw [h]; decide
theorem back_3 (W : List ByteArray) (hs : ∀ w ∈ W, w.size ≤ 200) (c : C8) (h : tk 3 W = some c) : Back 3 W c := by
  by_cases hl : W.length = 3
  · have t0 := hl
    obtain ⟨w0, W0, y0, t1⟩ := cons_of t0
    obtain ⟨w1, W1, y1, t2⟩ := cons_of t1
    obtain ⟨w2, W2, y2, t3⟩ := cons_of t2
    obtain rfl := List.length_eq_zero_iff.1 t3
    subst y2 y1 y0
    have l : tk 3 [w0, w1, w2] = ((bif w0.data.toList == [112, 111, 114, 116] then some ((ci 3) : C8) else none).bind fun c0 => (bif numOk w1 && decide (numI w1 ≤ 255) then some ({ c0 with port := numI w1 } : C8) else none).bind fun c1 => (bif w2.data.toList == [117, 112] then some (c1 : C8) else none).bind fun c2 => some c2) := by kernel_rfl
    rw [l] at h
    cases h0 : (w0.data.toList == [112, 111, 114, 116]) with
    | false => rw [h0] at h; exact absurd h (by intro q; cases q)
    | true =>
    rw [h0] at h; simp only [cond_true, Option.bind_some] at h
    cases h1 : (numOk w1 && decide (numI w1 ≤ 255)) with
    | false => rw [h1] at h; exact absurd h (by intro q; cases q)
    | true =>
    rw [h1] at h; simp only [cond_true, Option.bind_some] at h
    cases h2 : (w2.data.toList == [117, 112]) with
    | false => rw [h2] at h; exact absurd h (by intro q; cases q)
    | true =>
    rw [h2] at h; simp only [cond_true, Option.bind_some] at h
    obtain rfl := Option.some.inj h
    refine ⟨?_, ?_⟩
    · show [w2b [112, 111, 114, 116], itoaS (numI w1), w2b [117, 112]] = [w0, w1, w2]
      rw [lit_eq h0, itoa_num (and_l h1), lit_eq h2]
    · exact { p := num_ok (and_l h1), n := cb_3.n, v := cb_3.v, m0 := cb_3.m0, m1 := cb_3.m1, t0 := cb_3.t0, t1 := cb_3.t1, a0 := cb_3.a0 }
  · unfold tk at h
    rw [show ((Vs 3).length == W.length) = false by rw [show (Vs 3).length = 3 by kernel_rfl]; exact beq_false_of_ne (fun e => hl e.symm)] at h
    cases h
theorem cb_4 : CB (ci 4) where
  p := by kernel_rfl
  n := by kernel_rfl
  v := by kernel_rfl
  m0 := by have h : (ci 4).memb = 0 := (by kernel_rfl); rw [h]; decide
  m1 := by have h : (ci 4).memb = 0 := (by kernel_rfl); rw [h]; decide
  t0 := by have h : (ci 4).tagd = 0 := (by kernel_rfl); rw [h]; decide
  t1 := by have h : (ci 4).tagd = 0 := (by kernel_rfl); rw [h]; decide
  a0 := by have h : (ci 4).mac = 0 := (by kernel_rfl); rw [h]; decide
theorem back_4 (W : List ByteArray) (hs : ∀ w ∈ W, w.size ≤ 200) (c : C8) (h : tk 4 W = some c) : Back 4 W c := by
  by_cases hl : W.length = 3
  · have t0 := hl
    obtain ⟨w0, W0, y0, t1⟩ := cons_of t0
    obtain ⟨w1, W1, y1, t2⟩ := cons_of t1
    obtain ⟨w2, W2, y2, t3⟩ := cons_of t2
    obtain rfl := List.length_eq_zero_iff.1 t3
    subst y2 y1 y0
    have l : tk 4 [w0, w1, w2] = ((bif w0.data.toList == [112, 111, 114, 116] then some ((ci 4) : C8) else none).bind fun c0 => (bif numOk w1 && decide (numI w1 ≤ 255) then some ({ c0 with port := numI w1 } : C8) else none).bind fun c1 => (bif w2.data.toList == [100, 111, 119, 110] then some (c1 : C8) else none).bind fun c2 => some c2) := by kernel_rfl
    rw [l] at h
    cases h0 : (w0.data.toList == [112, 111, 114, 116]) with
    | false => rw [h0] at h; exact absurd h (by intro q; cases q)
    | true =>
    rw [h0] at h; simp only [cond_true, Option.bind_some] at h
    cases h1 : (numOk w1 && decide (numI w1 ≤ 255)) with
    | false => rw [h1] at h; exact absurd h (by intro q; cases q)
    | true =>
    rw [h1] at h; simp only [cond_true, Option.bind_some] at h
    cases h2 : (w2.data.toList == [100, 111, 119, 110]) with
    | false => rw [h2] at h; exact absurd h (by intro q; cases q)
    | true =>
    rw [h2] at h; simp only [cond_true, Option.bind_some] at h
    obtain rfl := Option.some.inj h
    refine ⟨?_, ?_⟩
    · show [w2b [112, 111, 114, 116], itoaS (numI w1), w2b [100, 111, 119, 110]] = [w0, w1, w2]
      rw [lit_eq h0, itoa_num (and_l h1), lit_eq h2]
    · exact { p := num_ok (and_l h1), n := cb_4.n, v := cb_4.v, m0 := cb_4.m0, m1 := cb_4.m1, t0 := cb_4.t0, t1 := cb_4.t1, a0 := cb_4.a0 }
  · unfold tk at h
    rw [show ((Vs 4).length == W.length) = false by rw [show (Vs 4).length = 3 by kernel_rfl]; exact beq_false_of_ne (fun e => hl e.symm)] at h
    cases h
theorem cb_5 : CB (ci 5) where
  p := by kernel_rfl
  n := by kernel_rfl
  v := by kernel_rfl
  m0 := by have h : (ci 5).memb = 0 := (by kernel_rfl); rw [h]; decide
  m1 := by have h : (ci 5).memb = 0 := (by kernel_rfl); rw [h]; decide
  t0 := by have h : (ci 5).tagd = 0 := (by kernel_rfl); rw [h]; decide
  t1 := by have h : (ci 5).tagd = 0 := (by kernel_rfl); rw [h]; decide
  a0 := by have h : (ci 5).mac = 0 := (by kernel_rfl); rw [h]; decide
theorem back_5 (W : List ByteArray) (hs : ∀ w ∈ W, w.size ≤ 200) (c : C8) (h : tk 5 W = some c) : Back 5 W c := by
  by_cases hl : W.length = 4
  · have t0 := hl
    obtain ⟨w0, W0, y0, t1⟩ := cons_of t0
    obtain ⟨w1, W1, y1, t2⟩ := cons_of t1
    obtain ⟨w2, W2, y2, t3⟩ := cons_of t2
    obtain ⟨w3, W3, y3, t4⟩ := cons_of t3
    obtain rfl := List.length_eq_zero_iff.1 t4
    subst y3 y2 y1 y0
    have l : tk 5 [w0, w1, w2, w3] = ((bif w0.data.toList == [112, 111, 114, 116] then some ((ci 5) : C8) else none).bind fun c0 => (bif numOk w1 && decide (numI w1 ≤ 255) then some ({ c0 with port := numI w1 } : C8) else none).bind fun c1 => (bif w2.data.toList == [99, 111, 115, 116] then some (c1 : C8) else none).bind fun c2 => (bif numOk w3 then some ({ c2 with num := numI w3 } : C8) else none).bind fun c3 => some c3) := by kernel_rfl
    rw [l] at h
    cases h0 : (w0.data.toList == [112, 111, 114, 116]) with
    | false => rw [h0] at h; exact absurd h (by intro q; cases q)
    | true =>
    rw [h0] at h; simp only [cond_true, Option.bind_some] at h
    cases h1 : (numOk w1 && decide (numI w1 ≤ 255)) with
    | false => rw [h1] at h; exact absurd h (by intro q; cases q)
    | true =>
    rw [h1] at h; simp only [cond_true, Option.bind_some] at h
    cases h2 : (w2.data.toList == [99, 111, 115, 116]) with
    | false => rw [h2] at h; exact absurd h (by intro q; cases q)
    | true =>
    rw [h2] at h; simp only [cond_true, Option.bind_some] at h
    cases h3 : (numOk w3) with
    | false => rw [h3] at h; exact absurd h (by intro q; cases q)
    | true =>
    rw [h3] at h; simp only [cond_true, Option.bind_some] at h
    obtain rfl := Option.some.inj h
    refine ⟨?_, ?_⟩
    · show [w2b [112, 111, 114, 116], itoaS (numI w1), w2b [99, 111, 115, 116], itoaS (numI w3)] = [w0, w1, w2, w3]
      rw [lit_eq h0, itoa_num (and_l h1), lit_eq h2, itoa_num h3]
    · exact { p := num_ok (and_l h1), n := num_ok h3, v := cb_5.v, m0 := cb_5.m0, m1 := cb_5.m1, t0 := cb_5.t0, t1 := cb_5.t1, a0 := cb_5.a0 }
  · unfold tk at h
    rw [show ((Vs 5).length == W.length) = false by rw [show (Vs 5).length = 4 by kernel_rfl]; exact beq_false_of_ne (fun e => hl e.symm)] at h
    cases h
theorem cb_6 : CB (ci 6) where
  p := by kernel_rfl
  n := by kernel_rfl
  v := by kernel_rfl
  m0 := by have h : (ci 6).memb = 0 := (by kernel_rfl); rw [h]; decide
  m1 := by have h : (ci 6).memb = 0 := (by kernel_rfl); rw [h]; decide
  t0 := by have h : (ci 6).tagd = 0 := (by kernel_rfl); rw [h]; decide
  t1 := by have h : (ci 6).tagd = 0 := (by kernel_rfl); rw [h]; decide
  a0 := by have h : (ci 6).mac = 0 := (by kernel_rfl); rw [h]; decide
theorem back_6 (W : List ByteArray) (hs : ∀ w ∈ W, w.size ≤ 200) (c : C8) (h : tk 6 W = some c) : Back 6 W c := by
  by_cases hl : W.length = 4
  · have t0 := hl
    obtain ⟨w0, W0, y0, t1⟩ := cons_of t0
    obtain ⟨w1, W1, y1, t2⟩ := cons_of t1
    obtain ⟨w2, W2, y2, t3⟩ := cons_of t2
    obtain ⟨w3, W3, y3, t4⟩ := cons_of t3
    obtain rfl := List.length_eq_zero_iff.1 t4
    subst y3 y2 y1 y0
    have l : tk 6 [w0, w1, w2, w3] = ((bif w0.data.toList == [112, 111, 114, 116] then some ((ci 6) : C8) else none).bind fun c0 => (bif numOk w1 && decide (numI w1 ≤ 255) then some ({ c0 with port := numI w1 } : C8) else none).bind fun c1 => (bif w2.data.toList == [112, 118, 105, 100] then some (c1 : C8) else none).bind fun c2 => (bif numOk w3 then some ({ c2 with num := numI w3 } : C8) else none).bind fun c3 => some c3) := by kernel_rfl
    rw [l] at h
    cases h0 : (w0.data.toList == [112, 111, 114, 116]) with
    | false => rw [h0] at h; exact absurd h (by intro q; cases q)
    | true =>
    rw [h0] at h; simp only [cond_true, Option.bind_some] at h
    cases h1 : (numOk w1 && decide (numI w1 ≤ 255)) with
    | false => rw [h1] at h; exact absurd h (by intro q; cases q)
    | true =>
    rw [h1] at h; simp only [cond_true, Option.bind_some] at h
    cases h2 : (w2.data.toList == [112, 118, 105, 100]) with
    | false => rw [h2] at h; exact absurd h (by intro q; cases q)
    | true =>
    rw [h2] at h; simp only [cond_true, Option.bind_some] at h
    cases h3 : (numOk w3) with
    | false => rw [h3] at h; exact absurd h (by intro q; cases q)
    | true =>
    rw [h3] at h; simp only [cond_true, Option.bind_some] at h
    obtain rfl := Option.some.inj h
    refine ⟨?_, ?_⟩
    · show [w2b [112, 111, 114, 116], itoaS (numI w1), w2b [112, 118, 105, 100], itoaS (numI w3)] = [w0, w1, w2, w3]
      rw [lit_eq h0, itoa_num (and_l h1), lit_eq h2, itoa_num h3]
    · exact { p := num_ok (and_l h1), n := num_ok h3, v := cb_6.v, m0 := cb_6.m0, m1 := cb_6.m1, t0 := cb_6.t0, t1 := cb_6.t1, a0 := cb_6.a0 }
  · unfold tk at h
    rw [show ((Vs 6).length == W.length) = false by rw [show (Vs 6).length = 4 by kernel_rfl]; exact beq_false_of_ne (fun e => hl e.symm)] at h
    cases h
theorem cb_7 : CB (ci 7) where
  p := by kernel_rfl
  n := by kernel_rfl
  v := by kernel_rfl
  m0 := by have h : (ci 7).memb = 0 := (by kernel_rfl); rw [h]; decide
  m1 := by have h : (ci 7).memb = 0 := (by kernel_rfl); rw [h]; decide
  t0 := by have h : (ci 7).tagd = 0 := (by kernel_rfl); rw [h]; decide
  t1 := by have h : (ci 7).tagd = 0 := (by kernel_rfl); rw [h]; decide
  a0 := by have h : (ci 7).mac = 0 := (by kernel_rfl); rw [h]; decide
theorem back_7 (W : List ByteArray) (hs : ∀ w ∈ W, w.size ≤ 200) (c : C8) (h : tk 7 W = some c) : Back 7 W c := by
  by_cases hl : W.length = 6
  · have t0 := hl
    obtain ⟨w0, W0, y0, t1⟩ := cons_of t0
    obtain ⟨w1, W1, y1, t2⟩ := cons_of t1
    obtain ⟨w2, W2, y2, t3⟩ := cons_of t2
    obtain ⟨w3, W3, y3, t4⟩ := cons_of t3
    obtain ⟨w4, W4, y4, t5⟩ := cons_of t4
    obtain ⟨w5, W5, y5, t6⟩ := cons_of t5
    obtain rfl := List.length_eq_zero_iff.1 t6
    subst y5 y4 y3 y2 y1 y0
    have l : tk 7 [w0, w1, w2, w3, w4, w5] = ((bif w0.data.toList == [118, 108, 97, 110] then some ((ci 7) : C8) else none).bind fun c0 => (bif numOk w1 && decide (numI w1 ≤ 65535) then some ({ c0 with vlan := numI w1 } : C8) else none).bind fun c1 => (bif w2.data.toList == [109, 101, 109, 98, 101, 114, 115] then some (c1 : C8) else none).bind fun c2 => (bif numOk w3 && decide (numI w3 ≤ 255) then some ({ c2 with memb := IntKind.u8.wrap (numI w3) } : C8) else none).bind fun c3 => (bif w4.data.toList == [116, 97, 103, 103, 101, 100] then some (c3 : C8) else none).bind fun c4 => (bif numOk w5 && decide (numI w5 ≤ 255) then some ({ c4 with tagd := IntKind.u8.wrap (numI w5) } : C8) else none).bind fun c5 => some c5) := by kernel_rfl
    rw [l] at h
    cases h0 : (w0.data.toList == [118, 108, 97, 110]) with
    | false => rw [h0] at h; exact absurd h (by intro q; cases q)
    | true =>
    rw [h0] at h; simp only [cond_true, Option.bind_some] at h
    cases h1 : (numOk w1 && decide (numI w1 ≤ 65535)) with
    | false => rw [h1] at h; exact absurd h (by intro q; cases q)
    | true =>
    rw [h1] at h; simp only [cond_true, Option.bind_some] at h
    cases h2 : (w2.data.toList == [109, 101, 109, 98, 101, 114, 115]) with
    | false => rw [h2] at h; exact absurd h (by intro q; cases q)
    | true =>
    rw [h2] at h; simp only [cond_true, Option.bind_some] at h
    cases h3 : (numOk w3 && decide (numI w3 ≤ 255)) with
    | false => rw [h3] at h; exact absurd h (by intro q; cases q)
    | true =>
    rw [h3] at h; simp only [cond_true, Option.bind_some] at h
    cases h4 : (w4.data.toList == [116, 97, 103, 103, 101, 100]) with
    | false => rw [h4] at h; exact absurd h (by intro q; cases q)
    | true =>
    rw [h4] at h; simp only [cond_true, Option.bind_some] at h
    cases h5 : (numOk w5 && decide (numI w5 ≤ 255)) with
    | false => rw [h5] at h; exact absurd h (by intro q; cases q)
    | true =>
    rw [h5] at h; simp only [cond_true, Option.bind_some] at h
    obtain rfl := Option.some.inj h
    refine ⟨?_, ?_⟩
    · show [w2b [118, 108, 97, 110], itoaS (numI w1), w2b [109, 101, 109, 98, 101, 114, 115], itoaS (IntKind.u8.wrap (numI w3)), w2b [116, 97, 103, 103, 101, 100], itoaS (IntKind.u8.wrap (numI w5))] = [w0, w1, w2, w3, w4, w5]
      rw [lit_eq h0, itoa_num (and_l h1), lit_eq h2, itoa_u8 (and_l h3) (and_r h3), lit_eq h4, itoa_u8 (and_l h5) (and_r h5)]
    · exact { p := cb_7.p, n := cb_7.n, v := num_ok (and_l h1), m0 := (u8_rng _).1, m1 := (u8_rng _).2, t0 := (u8_rng _).1, t1 := (u8_rng _).2, a0 := cb_7.a0 }
  · unfold tk at h
    rw [show ((Vs 7).length == W.length) = false by rw [show (Vs 7).length = 6 by kernel_rfl]; exact beq_false_of_ne (fun e => hl e.symm)] at h
    cases h
theorem cb_8 : CB (ci 8) where
  p := by kernel_rfl
  n := by kernel_rfl
  v := by kernel_rfl
  m0 := by have h : (ci 8).memb = 0 := (by kernel_rfl); rw [h]; decide
  m1 := by have h : (ci 8).memb = 0 := (by kernel_rfl); rw [h]; decide
  t0 := by have h : (ci 8).tagd = 0 := (by kernel_rfl); rw [h]; decide
  t1 := by have h : (ci 8).tagd = 0 := (by kernel_rfl); rw [h]; decide
  a0 := by have h : (ci 8).mac = 0 := (by kernel_rfl); rw [h]; decide
theorem back_8 (W : List ByteArray) (hs : ∀ w ∈ W, w.size ≤ 200) (c : C8) (h : tk 8 W = some c) : Back 8 W c := by
  by_cases hl : W.length = 3
  · have t0 := hl
    obtain ⟨w0, W0, y0, t1⟩ := cons_of t0
    obtain ⟨w1, W1, y1, t2⟩ := cons_of t1
    obtain ⟨w2, W2, y2, t3⟩ := cons_of t2
    obtain rfl := List.length_eq_zero_iff.1 t3
    subst y2 y1 y0
    have l : tk 8 [w0, w1, w2] = ((bif w0.data.toList == [110, 111] then some ((ci 8) : C8) else none).bind fun c0 => (bif w1.data.toList == [118, 108, 97, 110] then some (c0 : C8) else none).bind fun c1 => (bif numOk w2 && decide (numI w2 ≤ 65535) then some ({ c1 with vlan := numI w2 } : C8) else none).bind fun c2 => some c2) := by kernel_rfl
    rw [l] at h
    cases h0 : (w0.data.toList == [110, 111]) with
    | false => rw [h0] at h; exact absurd h (by intro q; cases q)
    | true =>
    rw [h0] at h; simp only [cond_true, Option.bind_some] at h
    cases h1 : (w1.data.toList == [118, 108, 97, 110]) with
    | false => rw [h1] at h; exact absurd h (by intro q; cases q)
    | true =>
    rw [h1] at h; simp only [cond_true, Option.bind_some] at h
    cases h2 : (numOk w2 && decide (numI w2 ≤ 65535)) with
    | false => rw [h2] at h; exact absurd h (by intro q; cases q)
    | true =>
    rw [h2] at h; simp only [cond_true, Option.bind_some] at h
    obtain rfl := Option.some.inj h
    refine ⟨?_, ?_⟩
    · show [w2b [110, 111], w2b [118, 108, 97, 110], itoaS (numI w2)] = [w0, w1, w2]
      rw [lit_eq h0, lit_eq h1, itoa_num (and_l h2)]
    · exact { p := cb_8.p, n := cb_8.n, v := num_ok (and_l h2), m0 := cb_8.m0, m1 := cb_8.m1, t0 := cb_8.t0, t1 := cb_8.t1, a0 := cb_8.a0 }
  · unfold tk at h
    rw [show ((Vs 8).length == W.length) = false by rw [show (Vs 8).length = 3 by kernel_rfl]; exact beq_false_of_ne (fun e => hl e.symm)] at h
    cases h
theorem cb_9 : CB (ci 9) where
  p := by kernel_rfl
  n := by kernel_rfl
  v := by kernel_rfl
  m0 := by have h : (ci 9).memb = 0 := (by kernel_rfl); rw [h]; decide
  m1 := by have h : (ci 9).memb = 0 := (by kernel_rfl); rw [h]; decide
  t0 := by have h : (ci 9).tagd = 0 := (by kernel_rfl); rw [h]; decide
  t1 := by have h : (ci 9).tagd = 0 := (by kernel_rfl); rw [h]; decide
  a0 := by have h : (ci 9).mac = 0 := (by kernel_rfl); rw [h]; decide
theorem back_9 (W : List ByteArray) (hs : ∀ w ∈ W, w.size ≤ 200) (c : C8) (h : tk 9 W = some c) : Back 9 W c := by
  by_cases hl : W.length = 6
  · have t0 := hl
    obtain ⟨w0, W0, y0, t1⟩ := cons_of t0
    obtain ⟨w1, W1, y1, t2⟩ := cons_of t1
    obtain ⟨w2, W2, y2, t3⟩ := cons_of t2
    obtain ⟨w3, W3, y3, t4⟩ := cons_of t3
    obtain ⟨w4, W4, y4, t5⟩ := cons_of t4
    obtain ⟨w5, W5, y5, t6⟩ := cons_of t5
    obtain rfl := List.length_eq_zero_iff.1 t6
    subst y5 y4 y3 y2 y1 y0
    have l : tk 9 [w0, w1, w2, w3, w4, w5] = ((bif w0.data.toList == [115, 116, 97, 116, 105, 99] then some ((ci 9) : C8) else none).bind fun c0 => (bif (macP w1).2 == 0 then some ({ c0 with mac := (macP w1).1 } : C8) else none).bind fun c1 => (bif w2.data.toList == [118, 108, 97, 110] then some (c1 : C8) else none).bind fun c2 => (bif numOk w3 && decide (numI w3 ≤ 65535) then some ({ c2 with vlan := numI w3 } : C8) else none).bind fun c3 => (bif w4.data.toList == [112, 111, 114, 116] then some (c3 : C8) else none).bind fun c4 => (bif numOk w5 && decide (numI w5 ≤ 255) then some ({ c4 with port := numI w5 } : C8) else none).bind fun c5 => some c5) := by kernel_rfl
    rw [l] at h
    cases h0 : (w0.data.toList == [115, 116, 97, 116, 105, 99]) with
    | false => rw [h0] at h; exact absurd h (by intro q; cases q)
    | true =>
    rw [h0] at h; simp only [cond_true, Option.bind_some] at h
    cases h1 : ((macP w1).2 == 0) with
    | false => rw [h1] at h; exact absurd h (by intro q; cases q)
    | true =>
    rw [h1] at h; simp only [cond_true, Option.bind_some] at h
    cases h2 : (w2.data.toList == [118, 108, 97, 110]) with
    | false => rw [h2] at h; exact absurd h (by intro q; cases q)
    | true =>
    rw [h2] at h; simp only [cond_true, Option.bind_some] at h
    cases h3 : (numOk w3 && decide (numI w3 ≤ 65535)) with
    | false => rw [h3] at h; exact absurd h (by intro q; cases q)
    | true =>
    rw [h3] at h; simp only [cond_true, Option.bind_some] at h
    cases h4 : (w4.data.toList == [112, 111, 114, 116]) with
    | false => rw [h4] at h; exact absurd h (by intro q; cases q)
    | true =>
    rw [h4] at h; simp only [cond_true, Option.bind_some] at h
    cases h5 : (numOk w5 && decide (numI w5 ≤ 255)) with
    | false => rw [h5] at h; exact absurd h (by intro q; cases q)
    | true =>
    rw [h5] at h; simp only [cond_true, Option.bind_some] at h
    obtain rfl := Option.some.inj h
    refine ⟨?_, ?_⟩
    · show [w2b [115, 116, 97, 116, 105, 99], macT (macP w1).1, w2b [118, 108, 97, 110], itoaS (numI w3), w2b [112, 111, 114, 116], itoaS (numI w5)] = [w0, w1, w2, w3, w4, w5]
      rw [lit_eq h0, (macP_good w1 (hs _ (by simp)) h1).1, lit_eq h2, itoa_num (and_l h3), lit_eq h4, itoa_num (and_l h5)]
    · exact { p := num_ok (and_l h5), n := cb_9.n, v := num_ok (and_l h3), m0 := cb_9.m0, m1 := cb_9.m1, t0 := cb_9.t0, t1 := cb_9.t1, a0 := (macP_good w1 (hs _ (by simp)) h1).2 }
  · unfold tk at h
    rw [show ((Vs 9).length == W.length) = false by rw [show (Vs 9).length = 6 by kernel_rfl]; exact beq_false_of_ne (fun e => hl e.symm)] at h
    cases h
theorem cb_10 : CB (ci 10) where
  p := by kernel_rfl
  n := by kernel_rfl
  v := by kernel_rfl
  m0 := by have h : (ci 10).memb = 0 := (by kernel_rfl); rw [h]; decide
  m1 := by have h : (ci 10).memb = 0 := (by kernel_rfl); rw [h]; decide
  t0 := by have h : (ci 10).tagd = 0 := (by kernel_rfl); rw [h]; decide
  t1 := by have h : (ci 10).tagd = 0 := (by kernel_rfl); rw [h]; decide
  a0 := by have h : (ci 10).mac = 0 := (by kernel_rfl); rw [h]; decide
theorem back_10 (W : List ByteArray) (hs : ∀ w ∈ W, w.size ≤ 200) (c : C8) (h : tk 10 W = some c) : Back 10 W c := by
  by_cases hl : W.length = 5
  · have t0 := hl
    obtain ⟨w0, W0, y0, t1⟩ := cons_of t0
    obtain ⟨w1, W1, y1, t2⟩ := cons_of t1
    obtain ⟨w2, W2, y2, t3⟩ := cons_of t2
    obtain ⟨w3, W3, y3, t4⟩ := cons_of t3
    obtain ⟨w4, W4, y4, t5⟩ := cons_of t4
    obtain rfl := List.length_eq_zero_iff.1 t5
    subst y4 y3 y2 y1 y0
    have l : tk 10 [w0, w1, w2, w3, w4] = ((bif w0.data.toList == [110, 111] then some ((ci 10) : C8) else none).bind fun c0 => (bif w1.data.toList == [115, 116, 97, 116, 105, 99] then some (c0 : C8) else none).bind fun c1 => (bif (macP w2).2 == 0 then some ({ c1 with mac := (macP w2).1 } : C8) else none).bind fun c2 => (bif w3.data.toList == [118, 108, 97, 110] then some (c2 : C8) else none).bind fun c3 => (bif numOk w4 && decide (numI w4 ≤ 65535) then some ({ c3 with vlan := numI w4 } : C8) else none).bind fun c4 => some c4) := by kernel_rfl
    rw [l] at h
    cases h0 : (w0.data.toList == [110, 111]) with
    | false => rw [h0] at h; exact absurd h (by intro q; cases q)
    | true =>
    rw [h0] at h; simp only [cond_true, Option.bind_some] at h
    cases h1 : (w1.data.toList == [115, 116, 97, 116, 105, 99]) with
    | false => rw [h1] at h; exact absurd h (by intro q; cases q)
    | true =>
    rw [h1] at h; simp only [cond_true, Option.bind_some] at h
    cases h2 : ((macP w2).2 == 0) with
    | false => rw [h2] at h; exact absurd h (by intro q; cases q)
    | true =>
    rw [h2] at h; simp only [cond_true, Option.bind_some] at h
    cases h3 : (w3.data.toList == [118, 108, 97, 110]) with
    | false => rw [h3] at h; exact absurd h (by intro q; cases q)
    | true =>
    rw [h3] at h; simp only [cond_true, Option.bind_some] at h
    cases h4 : (numOk w4 && decide (numI w4 ≤ 65535)) with
    | false => rw [h4] at h; exact absurd h (by intro q; cases q)
    | true =>
    rw [h4] at h; simp only [cond_true, Option.bind_some] at h
    obtain rfl := Option.some.inj h
    refine ⟨?_, ?_⟩
    · show [w2b [110, 111], w2b [115, 116, 97, 116, 105, 99], macT (macP w2).1, w2b [118, 108, 97, 110], itoaS (numI w4)] = [w0, w1, w2, w3, w4]
      rw [lit_eq h0, lit_eq h1, (macP_good w2 (hs _ (by simp)) h2).1, lit_eq h3, itoa_num (and_l h4)]
    · exact { p := cb_10.p, n := cb_10.n, v := num_ok (and_l h4), m0 := cb_10.m0, m1 := cb_10.m1, t0 := cb_10.t0, t1 := cb_10.t1, a0 := (macP_good w2 (hs _ (by simp)) h2).2 }
  · unfold tk at h
    rw [show ((Vs 10).length == W.length) = false by rw [show (Vs 10).length = 5 by kernel_rfl]; exact beq_false_of_ne (fun e => hl e.symm)] at h
    cases h
theorem cb_11 : CB (ci 11) where
  p := by kernel_rfl
  n := by kernel_rfl
  v := by kernel_rfl
  m0 := by have h : (ci 11).memb = 0 := (by kernel_rfl); rw [h]; decide
  m1 := by have h : (ci 11).memb = 0 := (by kernel_rfl); rw [h]; decide
  t0 := by have h : (ci 11).tagd = 0 := (by kernel_rfl); rw [h]; decide
  t1 := by have h : (ci 11).tagd = 0 := (by kernel_rfl); rw [h]; decide
  a0 := by have h : (ci 11).mac = 0 := (by kernel_rfl); rw [h]; decide
theorem back_11 (W : List ByteArray) (hs : ∀ w ∈ W, w.size ≤ 200) (c : C8) (h : tk 11 W = some c) : Back 11 W c := by
  by_cases hl : W.length = 1
  · have t0 := hl
    obtain ⟨w0, W0, y0, t1⟩ := cons_of t0
    obtain rfl := List.length_eq_zero_iff.1 t1
    subst y0
    have l : tk 11 [w0] = ((bif w0.data.toList == [99, 111, 109, 109, 105, 116] then some ((ci 11) : C8) else none).bind fun c0 => some c0) := by kernel_rfl
    rw [l] at h
    cases h0 : (w0.data.toList == [99, 111, 109, 109, 105, 116]) with
    | false => rw [h0] at h; exact absurd h (by intro q; cases q)
    | true =>
    rw [h0] at h; simp only [cond_true, Option.bind_some] at h
    obtain rfl := Option.some.inj h
    refine ⟨?_, ?_⟩
    · show [w2b [99, 111, 109, 109, 105, 116]] = [w0]
      rw [lit_eq h0]
    · exact { p := cb_11.p, n := cb_11.n, v := cb_11.v, m0 := cb_11.m0, m1 := cb_11.m1, t0 := cb_11.t0, t1 := cb_11.t1, a0 := cb_11.a0 }
  · unfold tk at h
    rw [show ((Vs 11).length == W.length) = false by rw [show (Vs 11).length = 1 by kernel_rfl]; exact beq_false_of_ne (fun e => hl e.symm)] at h
    cases h
theorem cb_12 : CB (ci 12) where
  p := by kernel_rfl
  n := by kernel_rfl
  v := by kernel_rfl
  m0 := by have h : (ci 12).memb = 0 := (by kernel_rfl); rw [h]; decide
  m1 := by have h : (ci 12).memb = 0 := (by kernel_rfl); rw [h]; decide
  t0 := by have h : (ci 12).tagd = 0 := (by kernel_rfl); rw [h]; decide
  t1 := by have h : (ci 12).tagd = 0 := (by kernel_rfl); rw [h]; decide
  a0 := by have h : (ci 12).mac = 0 := (by kernel_rfl); rw [h]; decide
theorem back_12 (W : List ByteArray) (hs : ∀ w ∈ W, w.size ≤ 200) (c : C8) (h : tk 12 W = some c) : Back 12 W c := by
  by_cases hl : W.length = 1
  · have t0 := hl
    obtain ⟨w0, W0, y0, t1⟩ := cons_of t0
    obtain rfl := List.length_eq_zero_iff.1 t1
    subst y0
    have l : tk 12 [w0] = ((bif w0.data.toList == [114, 111, 108, 108, 98, 97, 99, 107] then some ((ci 12) : C8) else none).bind fun c0 => some c0) := by kernel_rfl
    rw [l] at h
    cases h0 : (w0.data.toList == [114, 111, 108, 108, 98, 97, 99, 107]) with
    | false => rw [h0] at h; exact absurd h (by intro q; cases q)
    | true =>
    rw [h0] at h; simp only [cond_true, Option.bind_some] at h
    obtain rfl := Option.some.inj h
    refine ⟨?_, ?_⟩
    · show [w2b [114, 111, 108, 108, 98, 97, 99, 107]] = [w0]
      rw [lit_eq h0]
    · exact { p := cb_12.p, n := cb_12.n, v := cb_12.v, m0 := cb_12.m0, m1 := cb_12.m1, t0 := cb_12.t0, t1 := cb_12.t1, a0 := cb_12.a0 }
  · unfold tk at h
    rw [show ((Vs 12).length == W.length) = false by rw [show (Vs 12).length = 1 by kernel_rfl]; exact beq_false_of_ne (fun e => hl e.symm)] at h
    cases h
theorem cb_13 : CB (ci 13) where
  p := by kernel_rfl
  n := by kernel_rfl
  v := by kernel_rfl
  m0 := by have h : (ci 13).memb = 0 := (by kernel_rfl); rw [h]; decide
  m1 := by have h : (ci 13).memb = 0 := (by kernel_rfl); rw [h]; decide
  t0 := by have h : (ci 13).tagd = 0 := (by kernel_rfl); rw [h]; decide
  t1 := by have h : (ci 13).tagd = 0 := (by kernel_rfl); rw [h]; decide
  a0 := by have h : (ci 13).mac = 0 := (by kernel_rfl); rw [h]; decide
theorem back_13 (W : List ByteArray) (hs : ∀ w ∈ W, w.size ≤ 200) (c : C8) (h : tk 13 W = some c) : Back 13 W c := by
  by_cases hl : W.length = 2
  · have t0 := hl
    obtain ⟨w0, W0, y0, t1⟩ := cons_of t0
    obtain ⟨w1, W1, y1, t2⟩ := cons_of t1
    obtain rfl := List.length_eq_zero_iff.1 t2
    subst y1 y0
    have l : tk 13 [w0, w1] = ((bif w0.data.toList == [115, 104, 111, 119] then some ((ci 13) : C8) else none).bind fun c0 => (bif w1.data.toList == [99, 111, 110, 102, 105, 103] then some (c0 : C8) else none).bind fun c1 => some c1) := by kernel_rfl
    rw [l] at h
    cases h0 : (w0.data.toList == [115, 104, 111, 119]) with
    | false => rw [h0] at h; exact absurd h (by intro q; cases q)
    | true =>
    rw [h0] at h; simp only [cond_true, Option.bind_some] at h
    cases h1 : (w1.data.toList == [99, 111, 110, 102, 105, 103]) with
    | false => rw [h1] at h; exact absurd h (by intro q; cases q)
    | true =>
    rw [h1] at h; simp only [cond_true, Option.bind_some] at h
    obtain rfl := Option.some.inj h
    refine ⟨?_, ?_⟩
    · show [w2b [115, 104, 111, 119], w2b [99, 111, 110, 102, 105, 103]] = [w0, w1]
      rw [lit_eq h0, lit_eq h1]
    · exact { p := cb_13.p, n := cb_13.n, v := cb_13.v, m0 := cb_13.m0, m1 := cb_13.m1, t0 := cb_13.t0, t1 := cb_13.t1, a0 := cb_13.a0 }
  · unfold tk at h
    rw [show ((Vs 13).length == W.length) = false by rw [show (Vs 13).length = 2 by kernel_rfl]; exact beq_false_of_ne (fun e => hl e.symm)] at h
    cases h
theorem cb_14 : CB (ci 14) where
  p := by kernel_rfl
  n := by kernel_rfl
  v := by kernel_rfl
  m0 := by have h : (ci 14).memb = 0 := (by kernel_rfl); rw [h]; decide
  m1 := by have h : (ci 14).memb = 0 := (by kernel_rfl); rw [h]; decide
  t0 := by have h : (ci 14).tagd = 0 := (by kernel_rfl); rw [h]; decide
  t1 := by have h : (ci 14).tagd = 0 := (by kernel_rfl); rw [h]; decide
  a0 := by have h : (ci 14).mac = 0 := (by kernel_rfl); rw [h]; decide
theorem back_14 (W : List ByteArray) (hs : ∀ w ∈ W, w.size ≤ 200) (c : C8) (h : tk 14 W = some c) : Back 14 W c := by
  by_cases hl : W.length = 2
  · have t0 := hl
    obtain ⟨w0, W0, y0, t1⟩ := cons_of t0
    obtain ⟨w1, W1, y1, t2⟩ := cons_of t1
    obtain rfl := List.length_eq_zero_iff.1 t2
    subst y1 y0
    have l : tk 14 [w0, w1] = ((bif w0.data.toList == [115, 104, 111, 119] then some ((ci 14) : C8) else none).bind fun c0 => (bif w1.data.toList == [112, 111, 114, 116, 115] then some (c0 : C8) else none).bind fun c1 => some c1) := by kernel_rfl
    rw [l] at h
    cases h0 : (w0.data.toList == [115, 104, 111, 119]) with
    | false => rw [h0] at h; exact absurd h (by intro q; cases q)
    | true =>
    rw [h0] at h; simp only [cond_true, Option.bind_some] at h
    cases h1 : (w1.data.toList == [112, 111, 114, 116, 115]) with
    | false => rw [h1] at h; exact absurd h (by intro q; cases q)
    | true =>
    rw [h1] at h; simp only [cond_true, Option.bind_some] at h
    obtain rfl := Option.some.inj h
    refine ⟨?_, ?_⟩
    · show [w2b [115, 104, 111, 119], w2b [112, 111, 114, 116, 115]] = [w0, w1]
      rw [lit_eq h0, lit_eq h1]
    · exact { p := cb_14.p, n := cb_14.n, v := cb_14.v, m0 := cb_14.m0, m1 := cb_14.m1, t0 := cb_14.t0, t1 := cb_14.t1, a0 := cb_14.a0 }
  · unfold tk at h
    rw [show ((Vs 14).length == W.length) = false by rw [show (Vs 14).length = 2 by kernel_rfl]; exact beq_false_of_ne (fun e => hl e.symm)] at h
    cases h
theorem cb_15 : CB (ci 15) where
  p := by kernel_rfl
  n := by kernel_rfl
  v := by kernel_rfl
  m0 := by have h : (ci 15).memb = 0 := (by kernel_rfl); rw [h]; decide
  m1 := by have h : (ci 15).memb = 0 := (by kernel_rfl); rw [h]; decide
  t0 := by have h : (ci 15).tagd = 0 := (by kernel_rfl); rw [h]; decide
  t1 := by have h : (ci 15).tagd = 0 := (by kernel_rfl); rw [h]; decide
  a0 := by have h : (ci 15).mac = 0 := (by kernel_rfl); rw [h]; decide
theorem back_15 (W : List ByteArray) (hs : ∀ w ∈ W, w.size ≤ 200) (c : C8) (h : tk 15 W = some c) : Back 15 W c := by
  by_cases hl : W.length = 2
  · have t0 := hl
    obtain ⟨w0, W0, y0, t1⟩ := cons_of t0
    obtain ⟨w1, W1, y1, t2⟩ := cons_of t1
    obtain rfl := List.length_eq_zero_iff.1 t2
    subst y1 y0
    have l : tk 15 [w0, w1] = ((bif w0.data.toList == [115, 104, 111, 119] then some ((ci 15) : C8) else none).bind fun c0 => (bif w1.data.toList == [116, 97, 98, 108, 101] then some (c0 : C8) else none).bind fun c1 => some c1) := by kernel_rfl
    rw [l] at h
    cases h0 : (w0.data.toList == [115, 104, 111, 119]) with
    | false => rw [h0] at h; exact absurd h (by intro q; cases q)
    | true =>
    rw [h0] at h; simp only [cond_true, Option.bind_some] at h
    cases h1 : (w1.data.toList == [116, 97, 98, 108, 101]) with
    | false => rw [h1] at h; exact absurd h (by intro q; cases q)
    | true =>
    rw [h1] at h; simp only [cond_true, Option.bind_some] at h
    obtain rfl := Option.some.inj h
    refine ⟨?_, ?_⟩
    · show [w2b [115, 104, 111, 119], w2b [116, 97, 98, 108, 101]] = [w0, w1]
      rw [lit_eq h0, lit_eq h1]
    · exact { p := cb_15.p, n := cb_15.n, v := cb_15.v, m0 := cb_15.m0, m1 := cb_15.m1, t0 := cb_15.t0, t1 := cb_15.t1, a0 := cb_15.a0 }
  · unfold tk at h
    rw [show ((Vs 15).length == W.length) = false by rw [show (Vs 15).length = 2 by kernel_rfl]; exact beq_false_of_ne (fun e => hl e.symm)] at h
    cases h
theorem back (i : Nat) (hi : i < 16) (W : List ByteArray) (hs : ∀ w ∈ W, w.size ≤ 200) (c : C8) (h : tk i W = some c) : Back i W c := by
  match i, hi with
  | 0, _ => exact back_0 W hs c h
  | 1, _ => exact back_1 W hs c h
  | 2, _ => exact back_2 W hs c h
  | 3, _ => exact back_3 W hs c h
  | 4, _ => exact back_4 W hs c h
  | 5, _ => exact back_5 W hs c h
  | 6, _ => exact back_6 W hs c h
  | 7, _ => exact back_7 W hs c h
  | 8, _ => exact back_8 W hs c h
  | 9, _ => exact back_9 W hs c h
  | 10, _ => exact back_10 W hs c h
  | 11, _ => exact back_11 W hs c h
  | 12, _ => exact back_12 W hs c h
  | 13, _ => exact back_13 W hs c h
  | 14, _ => exact back_14 W hs c h
  | 15, _ => exact back_15 W hs c h
  | n + 16, hn => omega
theorem first_some {F : Nat → Option C8} : ∀ (d k : Nat) {c : C8}, first F k d = some c → ∃ j, k ≤ j ∧ j < k + d ∧ F j = some c
  | 0, k, c, h => by cases h
  | d + 1, k, c, h => by
    unfold first at h
    cases hF : F k with
    | some c' => rw [hF] at h; exact ⟨k, Nat.le_refl _, by omega, by rw [hF]; exact h⟩
    | none =>
      rw [hF] at h
      obtain ⟨j, h1, h2, h3⟩ := first_some d (k + 1) h
      exact ⟨j, by omega, by omega, h3⟩
theorem firstT_some {F : Nat → Option ByteArray} : ∀ (d k : Nat) {c : ByteArray}, firstT F k d = some c → ∃ j, k ≤ j ∧ j < k + d ∧ F j = some c
  | 0, k, c, h => by cases h
  | d + 1, k, c, h => by
    unfold firstT at h
    cases hF : F k with
    | some c' => rw [hF] at h; exact ⟨k, Nat.le_refl _, by omega, by rw [hF]; exact h⟩
    | none =>
      rw [hF] at h
      obtain ⟨j, h1, h2, h3⟩ := firstT_some d (k + 1) h
      exact ⟨j, by omega, by omega, h3⟩
theorem firstT_none {F : Nat → Option ByteArray} : ∀ (d k : Nat), firstT F k d = none → ∀ j, k ≤ j → j < k + d → F j = none
  | 0, k, h, j, h1, h2 => by omega
  | d + 1, k, h, j, h1, h2 => by
    unfold firstT at h
    cases hF : F k with
    | some c' => rw [hF] at h; cases h
    | none =>
      rw [hF] at h
      by_cases e : j = k
      · rw [e]; exact hF
      · exact firstT_none d (k + 1) h j (by omega) (by omega)
theorem same8_eq {c d : C8} (h : same8 c d = true) : c = d := by
  cases c; cases d
  unfold same8 e23 at h
  simp only [Bool.and_eq_true, beq_iff_eq] at h
  obtain ⟨h1, h2, h3, h4, h5, h6, h7, h8⟩ := h
  subst h1 h2 h3 h4 h5 h6 h7 h8
  rfl
theorem same8_refl (c : C8) : same8 c c = true := by unfold same8 e23; simp
theorem text_some {c : C8} (hc : CB c) {t : ByteArray} (h : textO c = some t) : ∃ i, i < 16 ∧ tk i (wr i c) = some c ∧ t = jb (wr i c) ∧ t.size ≤ 126 ∧ find (WB t) = some c := by
  obtain ⟨i, _, hi, h1⟩ := firstT_some 16 0 h
  have i16 : i < 16 := by omega
  unfold tx at h1
  cases ht : tk i (wr i c) with
  | none => rw [ht] at h1; cases h1
  | some d =>
    rw [ht] at h1
    cases hs : same8 d c with
    | false => dsimp only at h1; rw [hs] at h1; cases h1
    | true =>
      dsimp only at h1
      rw [hs] at h1
      obtain rfl := same8_eq hs
      obtain ⟨z1, z2⟩ := line_wr hc i i16
      have hne : ne ((wr i d).map (·.data.toList)) = (wr i d).map (·.data.toList) := ne_keep fun w hw e => by
        obtain ⟨b, hb, rfl⟩ := List.mem_map.1 hw
        rw [tk_empty i16 ⟨b, hb, e⟩] at ht
        cases ht
      have ej : tl8 i d = jb (wr i d) := by unfold tl8 jb; rw [hne]
      have et : jb (wr i d) = t := Option.some.inj h1
      rw [ej, et] at z1 z2
      exact ⟨i, i16, ht, et.symm, z1, by rw [z2, ht]⟩
theorem text_of_line {s : ByteArray} (hs : s.size ≤ 200) {c : C8} (h : find (WB s) = some c) : CB c ∧ ∃ t, textO c = some t := by
  obtain ⟨j, _, hj, h1⟩ := first_some 16 0 h
  obtain ⟨b1, b2⟩ := back j (by omega) (WB s) (WB_small hs).2 c h1
  refine ⟨b2, ?_⟩
  cases ht : textO c with
  | some t => exact ⟨t, rfl⟩
  | none =>
    have := firstT_none 16 0 ht j (Nat.zero_le _) (by omega)
    unfold tx at this
    rw [b1, h1] at this
    dsimp only at this
    rw [same8_refl] at this
    cases this
end Go.Proofs.YtijabmpcicddbaaDoor.ParseBlanks

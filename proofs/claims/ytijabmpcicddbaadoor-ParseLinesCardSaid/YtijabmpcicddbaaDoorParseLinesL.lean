/- Lemmas for ParseLines: what its functions come to. -/
import Derived.Test.YtijabmpcicddbaaDoorParseLinesU
import Derived.Test.YtijabmpcicddbaaDoorVe35
set_option linter.unusedVariables false
set_option linter.unusedSimpArgs false
set_option maxHeartbeats 1000000
namespace Go.Proofs.YtijabmpcicddbaaDoor.ParseLines
open Go.Ve
theorem bnd {n : Nat} (h : n ≤ 1000000) : Nat.ble ((n + 1) * 16) bound = true := ble_true (by unfold bound; omega)
theorem cutP_loop (N : Nat) (row : Nat → Nat → PV) (L : List (List UInt8)) (hL : TL N row L) (hN : N ≤ 1000000) : ∀ (d i n : Nat) (nl : Bool) (f : Nat → Nat → PV) (A : List (List UInt8)) (fuel : Nat), i + d = N → TL n f A → n ≤ i → d < fuel →
    ∃ nl' n' f', TL n' f' (A ++ ne (L.drop i)) ∧ ∀ (α : Type) (k0 : Bool → Nat → (Nat → Nat → PV) → Option α), words_Cut_L0_l0 k0 fuel (N : Int) (i : Int) nl n f N row = k0 nl' n' f'
  | 0, i, n, nl, f, A, fuel + 1, hi, hA, hn, hf => by
    obtain rfl : i = N := by omega
    refine ⟨nl, n, f, ?_, fun α k0 => ?_⟩
    · rw [List.drop_eq_nil_of_le (by rw [hL.1]; exact Nat.le_refl _), ne_nil, List.append_nil]; exact hA
    · show words_Cut_L0_s0 _ k0 (i : Int) (i : Int) nl n f i row = _
      unfold words_Cut_L0_s0
      rw [dec_f (Int.lt_irrefl _), cond_false]
  | d + 1, i, n, nl, f, A, fuel + 1, hi, hA, hn, hf => by
    have hlt : i < L.length := by rw [hL.1]; omega
    have hd : L.drop i = L[i] :: L.drop (i + 1) := by rw [List.drop_eq_getElem_cons hlt]
    have hx := hL.2 i hlt
    have step : ∀ (α : Type) (k0 : Bool → Nat → (Nat → Nat → PV) → Option α), words_Cut_L0_l0 k0 (fuel + 1) (N : Int) (i : Int) nl n f N row = bif !(L[i]).isEmpty then words_Cut_L0_l0 k0 fuel (N : Int) ((i + 1 : Nat) : Int) (nl && false) (n + 1) (catf n f (rowOf 1 [.val (.string (textOf (row i 0)))])) N row else words_Cut_L0_l0 k0 fuel (N : Int) ((i + 1 : Nat) : Int) nl n f N row := by
      intro α k0
      show words_Cut_L0_s0 _ k0 (N : Int) (i : Int) nl n f N row = _
      unfold words_Cut_L0_s0
      rw [dec_t (show (i : Int) < (N : Int) by omega), inb_t (show (0 : Int) ≤ (i : Int) by omega) (show (i : Int) < (N : Int) by omega), cond_true, cond_true, Int.toNat_natCast, beq_nil, hx, bnd (by omega), cond_true, i64_id (by omega) (by omega)]
      rfl
    cases he : (L[i]).isEmpty with
    | true =>
      obtain ⟨nl', n', f', h1, h2⟩ := cutP_loop N row L hL hN d (i + 1) n nl f A fuel (by omega) hA (by omega) (by omega)
      refine ⟨nl', n', f', ?_, fun α k0 => ?_⟩
      · rw [hd, ne_cons, he, cond_true]; exact h1
      · rw [step, he]; exact h2 α k0
    | false =>
      have hs := hA.snoc (textOf (row i 0))
      rw [hx] at hs
      obtain ⟨nl', n', f', h1, h2⟩ := cutP_loop N row L hL hN d (i + 1) (n + 1) (nl && false) _ (A ++ [L[i]]) fuel (by omega) hs (by omega) (by omega)
      refine ⟨nl', n', f', ?_, fun α k0 => ?_⟩
      · rw [hd, ne_cons, he, cond_false]
        rw [List.append_assoc] at h1
        exact h1
      · rw [step, he]; exact h2 α k0
theorem cutP (s : ByteArray) (hs : s.size ≤ 900000) (g : Nat → Nat → PV) : ∃ nl n f, TL n f (words s.data.toList) ∧ ∀ (α : Type) (k0 : Bool → Nat → (Nat → Nat → PV) → Option α), words_Cut_L0 ((splitN s ⟨#[32]⟩ : Nat) : Int) g (splitN s ⟨#[32]⟩) (splitRow s ⟨#[32]⟩) k0 = k0 nl n f := by
  have hN := splitN_le s
  obtain ⟨nl, n, f, h1, h2⟩ := cutP_loop (splitN s ⟨#[32]⟩) (splitRow s ⟨#[32]⟩) _ (TL.split s ⟨#[32]⟩) (by omega) (splitN s ⟨#[32]⟩) 0 0 true g [] 18446744073709551616 (by omega) (TL.nil g) (Nat.le_refl 0) (by omega)
  refine ⟨nl, n, f, ?_, fun α k0 => h2 α k0⟩
  rw [List.nil_append, List.drop_zero, ne_split] at h1
  exact h1
theorem cutR_loop (s : ByteArray) (hs : s.size ≤ 900000) : ∀ (d i fr n : Nat) (nl : Bool) (f : Nat → Nat → PV) (A : List (List UInt8)) (fuel : Nat), i + d = s.size + 1 → fr ≤ i → TL n f A → n ≤ i → d < fuel →
    ∃ nl' n' f', TL n' f' (A ++ (bif Nat.ble i s.size then cutW ((s.data.toList.take i).drop fr) (s.data.toList.drop i) else [])) ∧ ∀ (α : Type) (k0 : Bool → Nat → (Nat → Nat → PV) → Option α), ref21_Cut_L0_l0 k0 fuel s (fr : Int) (i : Int) nl n f = k0 nl' n' f'
  | 0, i, fr, n, nl, f, A, fuel + 1, hi, hfr, hA, hn, hf => by
    have hb : Nat.ble i s.size = false := by
      cases h : Nat.ble i s.size with
      | false => rfl
      | true => have := Nat.le_of_ble_eq_true h; omega
    refine ⟨nl, n, f, by rw [hb, cond_false, List.append_nil]; exact hA, fun α k0 => ?_⟩
    show ref21_Cut_L0_s0 _ k0 s (fr : Int) (i : Int) nl n f = _
    unfold ref21_Cut_L0_s0
    rw [dec_f (show ¬ (i : Int) ≤ (s.size : Int) by omega), cond_false]
  | d + 1, i, fr, n, nl, f, A, fuel + 1, hi, hfr, hA, hn, hf => by
    have hle : i ≤ s.size := by omega
    rw [ble_true hle, cond_true]
    have hlen : s.data.toList.length = s.size := rfl
    have app : ∀ (h : fr < i), TL (n + 1) (e9 n f s (fr : Int) (i : Int)) (A ++ [(s.data.toList.take i).drop fr]) := by
      intro h
      have := hA.snoc (s.extract fr (fr + (i - fr)))
      rw [bl_extract, show fr + (i - fr) = i by omega] at this
      unfold e9
      rw [Int.toNat_natCast, Int.toNat_natCast, show fr + (i - fr) = i by omega]
      exact this
    have tests : fr < i → decide ((i : Int) > (fr : Int)) = true ∧ inb (i : Int) (s.size + 1) = true ∧ (decide (0 ≤ (fr : Int)) && decide ((fr : Int) ≤ (i : Int))) = true := fun h =>
      ⟨dec_t (by omega), inb_t (by omega) (by omega), by rw [dec_t (show (0 : Int) ≤ (fr : Int) by omega), dec_t (show (fr : Int) ≤ (i : Int) by omega)]; rfl⟩
    have ne_cur : fr < i → ne [(s.data.toList.take i).drop fr] = [(s.data.toList.take i).drop fr] := by
      intro h
      rw [ne_cons]
      have : ((s.data.toList.take i).drop fr).isEmpty = false := by
        rw [List.isEmpty_eq_false_iff]
        intro e
        have := congrArg List.length e
        simp only [List.length_drop, List.length_take, List.length_nil] at this
        omega
      rw [this]; rfl
    have ne_no : ¬ fr < i → ne [(s.data.toList.take i).drop fr] = [] := by
      intro h
      have : (s.data.toList.take i).drop fr = [] := List.drop_eq_nil_of_le (by simp only [List.length_take]; omega)
      rw [this]; rfl
    by_cases he : i = s.size
    · -- the end
      have hw : IntKind.i64.wrap ((i : Int) + 1) = ((i + 1 : Nat) : Int) := by rw [i64_id (by omega) (by omega)]; omega
      have hnil : s.data.toList.drop i = [] := List.drop_eq_nil_of_le (by omega)
      rw [hnil, cutW_end]
      by_cases hlt : fr < i
      · obtain ⟨t1, t2, t3⟩ := tests hlt
        obtain ⟨nl', n', f', h1, h2⟩ := cutR_loop s hs d (i + 1) (i + 1) (n + 1) (nl && false) _ _ fuel (by omega) (Nat.le_refl _) (app hlt) (by omega) (by omega)
        have hb : Nat.ble (i + 1) s.size = false := by
          cases h : Nat.ble (i + 1) s.size with
          | false => rfl
          | true => have := Nat.le_of_ble_eq_true h; omega
        rw [hb, cond_false, List.append_nil] at h1
        refine ⟨nl', n', f', by rw [ne_cur hlt]; exact h1, fun α k0 => ?_⟩
        show ref21_Cut_L0_s0 _ k0 s (fr : Int) (i : Int) nl n f = _
        unfold ref21_Cut_L0_s0
        rw [dec_t (show (i : Int) ≤ (s.size : Int) by omega), cond_true, show ((i : Int) == (s.size : Int)) = true by rw [he]; exact beq_self_eq_true _, cond_true, t1, cond_true, t2, cond_true, t3, cond_true, bnd (by omega), cond_true, hw]
        exact h2 α k0
      · obtain ⟨nl', n', f', h1, h2⟩ := cutR_loop s hs d (i + 1) (i + 1) n nl f A fuel (by omega) (Nat.le_refl _) hA (by omega) (by omega)
        have hb : Nat.ble (i + 1) s.size = false := by
          cases h : Nat.ble (i + 1) s.size with
          | false => rfl
          | true => have := Nat.le_of_ble_eq_true h; omega
        rw [hb, cond_false, List.append_nil] at h1
        refine ⟨nl', n', f', by rw [ne_no hlt, List.append_nil]; exact h1, fun α k0 => ?_⟩
        show ref21_Cut_L0_s0 _ k0 s (fr : Int) (i : Int) nl n f = _
        unfold ref21_Cut_L0_s0
        rw [dec_t (show (i : Int) ≤ (s.size : Int) by omega), cond_true, show ((i : Int) == (s.size : Int)) = true by rw [he]; exact beq_self_eq_true _, cond_true, dec_f (show ¬ (i : Int) > (fr : Int) by omega), cond_false, hw]
        exact h2 α k0
    · have hlt2 : i < s.data.toList.length := by omega
      have hw : IntKind.i64.wrap ((i : Int) + 1) = ((i + 1 : Nat) : Int) := by rw [i64_id (by omega) (by omega)]; omega
      have hd : s.data.toList.drop i = s.data.toList[i] :: s.data.toList.drop (i + 1) := by rw [List.drop_eq_getElem_cons hlt2]
      have hbt := bt_get s i hlt2
      have hb1 : Nat.ble (i + 1) s.size = true := ble_true (by omega)
      have hq : ((i : Int) == (s.size : Int)) = false := by
        have : (i : Int) ≠ (s.size : Int) := by omega
        simpa using this
      by_cases hc : s.data.toList[i] = 32
      · have hbt32 : (bt s (i : Int) == 32) = true := by rw [hbt, hc]; rfl
        have hcur : (s.data.toList.take (i + 1)).drop (i + 1) = [] := List.drop_eq_nil_of_le (by simp only [List.length_take]; omega)
        rw [hd, hc, cutW_blank]
        by_cases hlt : fr < i
        · obtain ⟨t1, t2, t3⟩ := tests hlt
          obtain ⟨nl', n', f', h1, h2⟩ := cutR_loop s hs d (i + 1) (i + 1) (n + 1) (nl && false) _ _ fuel (by omega) (Nat.le_refl _) (app hlt) (by omega) (by omega)
          rw [hb1, cond_true, hcur, List.append_assoc] at h1
          refine ⟨nl', n', f', by rw [ne_cur hlt]; exact h1, fun α k0 => ?_⟩
          show ref21_Cut_L0_s0 _ k0 s (fr : Int) (i : Int) nl n f = _
          unfold ref21_Cut_L0_s0
          rw [dec_t (show (i : Int) ≤ (s.size : Int) by omega), cond_true, hq, cond_false, inb_t (show (0 : Int) ≤ (i : Int) by omega) (show (i : Int) < (s.size : Int) by omega), cond_true, hbt32, cond_true, t1, cond_true, t2, cond_true, t3, cond_true, bnd (by omega), cond_true, hw]
          exact h2 α k0
        · obtain ⟨nl', n', f', h1, h2⟩ := cutR_loop s hs d (i + 1) (i + 1) n nl f A fuel (by omega) (Nat.le_refl _) hA (by omega) (by omega)
          rw [hb1, cond_true, hcur] at h1
          refine ⟨nl', n', f', by rw [ne_no hlt]; exact h1, fun α k0 => ?_⟩
          show ref21_Cut_L0_s0 _ k0 s (fr : Int) (i : Int) nl n f = _
          unfold ref21_Cut_L0_s0
          rw [dec_t (show (i : Int) ≤ (s.size : Int) by omega), cond_true, hq, cond_false, inb_t (show (0 : Int) ≤ (i : Int) by omega) (show (i : Int) < (s.size : Int) by omega), cond_true, hbt32, cond_true, dec_f (show ¬ (i : Int) > (fr : Int) by omega), cond_false, hw]
          exact h2 α k0
      · have hbt32 : (bt s (i : Int) == 32) = false := by
          rw [hbt]
          have : ((s.data.toList[i]).toNat : Int) ≠ 32 := fun e => hc (by
            have e26 : (s.data.toList[i]).toNat = 32 := by omega
            have := congrArg UInt8.ofNat e26
            simpa using this)
          simpa using this
        have hcb : (s.data.toList[i] == 32) = false := by simpa using hc
        have hcur : (s.data.toList.take (i + 1)).drop fr = (s.data.toList.take i).drop fr ++ [s.data.toList[i]] := by
          rw [List.take_succ_eq_append_getElem hlt2, List.drop_append_of_le_length (by simp only [List.length_take]; omega)]
        obtain ⟨nl', n', f', h1, h2⟩ := cutR_loop s hs d (i + 1) fr n nl f A fuel (by omega) (by omega) hA (by omega) (by omega)
        rw [hb1, cond_true, hcur] at h1
        refine ⟨nl', n', f', ?_, fun α k0 => ?_⟩
        · rw [hd]
          show TL n' f' (A ++ (bif s.data.toList[i] == 32 then _ else cutW ((s.data.toList.take i).drop fr ++ [s.data.toList[i]]) (s.data.toList.drop (i + 1))))
          rw [hcb, cond_false]
          exact h1
        · show ref21_Cut_L0_s0 _ k0 s (fr : Int) (i : Int) nl n f = _
          unfold ref21_Cut_L0_s0
          rw [dec_t (show (i : Int) ≤ (s.size : Int) by omega), cond_true, hq, cond_false, inb_t (show (0 : Int) ≤ (i : Int) by omega) (show (i : Int) < (s.size : Int) by omega), cond_true, hbt32, cond_false, hw]
          exact h2 α k0
theorem cutR (s : ByteArray) (hs : s.size ≤ 900000) (g : Nat → Nat → PV) : ∃ nl n f, TL n f (words s.data.toList) ∧ ∀ (α : Type) (k0 : Bool → Nat → (Nat → Nat → PV) → Option α), ref21_Cut_L0 s g k0 = k0 nl n f := by
  obtain ⟨nl, n, f, h1, h2⟩ := cutR_loop s hs (s.size + 1) 0 0 0 true g [] 18446744073709551616 (by omega) (Nat.le_refl 0) (TL.nil g) (Nat.le_refl 0) (by omega)
  refine ⟨nl, n, f, ?_, fun α k0 => h2 α k0⟩
  rw [ble_true (Nat.zero_le _), cond_true, List.nil_append] at h1
  exact h1
def Good' (L : List (List UInt8)) : Prop := ∀ w ∈ L, w ≠ []
theorem joinW_app (A : List (List UInt8)) (x : List UInt8) : joinW (A ++ [x]) = bif A.isEmpty then x else joinW A ++ 32 :: x := by
  cases A with
  | nil => exact joinW_one x
  | cons y A => exact joinW_snoc (y :: A) x (by simp)
theorem joinW_empty {A : List (List UInt8)} (h : Good' A) : (joinW A).isEmpty = A.isEmpty := by
  match A, h with
  | [], _ => rfl
  | [x], h =>
    rw [joinW_one]
    have := h x (by simp)
    cases x with
    | nil => exact absurd rfl this
    | cons => rfl
  | x :: y :: A, h =>
    rw [joinW_two]
    cases x <;> rfl
theorem e27_eq (u : Nat) : e27 (u : Int) = ⟨#[UInt8.ofNat (48 + u % 10)]⟩ := by
  unfold e27
  have h1 : (u : Int).tmod 10 = ((u % 10 : Nat) : Int) := by rw [Int.tmod_eq_emod_of_nonneg (by omega)]; omega
  rw [h1, u8_id (n := ((u % 10 : Nat) : Int)) (by omega) (by omega), u8_id (by omega) (by omega)]
  have : (48 + ((u % 10 : Nat) : Int)) = ((48 + u % 10 : Nat) : Int) := by omega
  rw [this]
  show (⟨((List.range 1).map fun i => ubyte (rowOf 1 [.val (.int .u8 ((48 + u % 10 : Nat) : Int))] i 0)).toArray⟩ : ByteArray) = _
  show (⟨#[UInt8.ofNat (((48 + u % 10 : Nat) : Int)).toNat]⟩ : ByteArray) = _
  rw [Int.toNat_natCast]
theorem u64_div (u : Nat) (hu : u < 18446744073709551616) : IntKind.u64.wrap ((u : Int).tdiv 10) = ((u / 10 : Nat) : Int) := by
  have : (u : Int).tdiv 10 = ((u / 10 : Nat) : Int) := by rw [Int.tdiv_eq_ediv_of_nonneg (by omega)]; omega
  rw [this, u64_id (by omega) (by omega)]
theorem text_loop {α : Type} (k0 : Int → ByteArray → Option α) (a : Int) : ∀ (m u : Nat) (s : ByteArray) (fuel : Nat), u < 10 ^ (m + 1) → u < 18446744073709551616 → m < fuel → s.size + m ≤ 1000 → ref21_Text_L0_l0 k0 fuel a (u : Int) s = k0 a ⟨(Lib.decDigits u ++ s.data.toList).toArray⟩
  | m, u, s, 0, _, _, hf, _ => by omega
  | m, u, s, fuel + 1, hu, hu2, hf, hs => by
    have hsz : ((⟨#[UInt8.ofNat (48 + u % 10)]⟩ : ByteArray).size + s.size) = 1 + s.size := rfl
    have hap : (⟨#[UInt8.ofNat (48 + u % 10)]⟩ : ByteArray) ++ s = ⟨(UInt8.ofNat (48 + u % 10) :: s.data.toList).toArray⟩ := bl_inj (by rw [bl_append]; rfl)
    show ref21_Text_L0_s0 _ k0 a (u : Int) s = _
    unfold ref21_Text_L0_s0
    rw [e27_eq, hsz, ble_true (by omega), cond_true, u64_div u hu2, hap]
    by_cases h : u < 10
    · have h0 : u / 10 = 0 := by omega
      rw [h0, show (((0 : Nat) : Int) == 0) = true from rfl, cond_true, Lib.decDigits, dif_pos h, Nat.mod_eq_of_lt h]
      rfl
    · have h0 : (((u / 10 : Nat) : Int) == 0) = false := by
        have : ((u / 10 : Nat) : Int) ≠ 0 := by omega
        simpa using this
      rw [h0, cond_false]
      cases m with
      | zero => omega
      | succ m =>
        rw [text_loop k0 a m (u / 10) ⟨(UInt8.ofNat (48 + u % 10) :: s.data.toList).toArray⟩ fuel (by rw [Nat.pow_succ] at hu; omega) (by omega) (by omega) (by show (UInt8.ofNat (48 + u % 10) :: s.data.toList).length + m ≤ 1000; rw [List.length_cons, bl_size]; omega)]
        congr 1
        rw [Lib.decDigits.eq_1 u, dif_neg h]
        simp
theorem dec_len (m u : Nat) (h : u < 10 ^ (m + 1)) : (Lib.decDigits u).length ≤ m + 1 := by
  induction m generalizing u with
  | zero => rw [Lib.decDigits, dif_pos (by omega)]; exact Nat.le_refl _
  | succ m ih =>
    rw [Lib.decDigits]
    split
    · simp
    · have := ih (u / 10) (by rw [Nat.pow_succ] at h; omega)
      simp only [List.length_append, List.length_singleton]
      omega
theorem text_eq {a : Int} (h : okI a = true) {α : Type} (k0 : ByteArray → Option α) : ref21_Text a k0 = k0 (itoaS a) := by
  obtain ⟨h0, h1⟩ := okI_spec.1 h
  have hi := itoaS_eq h
  unfold ref21_Text ref21_Text_T
  by_cases hn : a < 0
  · have he : e26 a = ((a.natAbs : Nat) : Int) := by
      unfold e26
      rw [i64_id (n := a + 1) (by omega) (by omega), i64_id (n := 0 - (a + 1)) (by omega) (by omega), u64_id (n := 0 - (a + 1)) (by omega) (by omega), u64_id (by omega) (by omega)]
      omega
    have hl : ∀ (k : Int → ByteArray → Option α), ref21_Text_L0 a (e26 a) k = k a ⟨(Lib.decDigits a.natAbs).toArray⟩ := fun k => by
      rw [he]
      have := text_loop k a 19 a.natAbs ⟨#[]⟩ 18446744073709551616 (by omega) (by omega) (by omega) (by show 0 + 19 ≤ 1000; omega)
      rw [show Lib.decDigits a.natAbs ++ (⟨#[]⟩ : ByteArray).data.toList = Lib.decDigits a.natAbs from List.append_nil _] at this
      exact this
    have hlen := dec_len 19 a.natAbs (by omega)
    rw [dec_t hn, cond_true, hl, dec_t hn, cond_true, ble_true (show (⟨#[45]⟩ : ByteArray).size + (⟨(Lib.decDigits a.natAbs).toArray⟩ : ByteArray).size ≤ 4611686018427387904 by show 1 + (Lib.decDigits a.natAbs).length ≤ _; omega), cond_true, hi]
    congr 1
    refine bl_inj ?_
    rw [bl_append]
    unfold Lib.itoa
    rw [if_pos hn]
    rfl
  · have he : IntKind.u64.wrap a = ((a.toNat : Nat) : Int) := by rw [u64_id (by omega) (by omega)]; omega
    have hl : ∀ (k : Int → ByteArray → Option α), ref21_Text_L0 a (IntKind.u64.wrap a) k = k a ⟨(Lib.decDigits a.toNat).toArray⟩ := fun k => by
      rw [he]
      have := text_loop k a 19 a.toNat ⟨#[]⟩ 18446744073709551616 (by omega) (by omega) (by omega) (by show 0 + 19 ≤ 1000; omega)
      rw [show Lib.decDigits a.toNat ++ (⟨#[]⟩ : ByteArray).data.toList = Lib.decDigits a.toNat from List.append_nil _] at this
      exact this
    rw [dec_f hn, cond_false, hl, dec_f hn, cond_false, hi]
    unfold Lib.itoa
    rw [if_neg hn]
def allD (l : List UInt8) : Bool := l.all fun c => decide (48 ≤ c.toNat) && decide (c.toNat ≤ 57)
def foldV (v : Nat) (l : List UInt8) : Nat := l.foldl (fun a c => a * 10 + (c.toNat - 48)) v
theorem numR_loop {α : Type} (s : ByteArray) (hs : s.size ≤ 10) (k0 : Option α) (k1 : ByteArray → Int → Option α) : ∀ (d i v fuel : Nat), i + d = s.size → v < 10 ^ i → d < fuel →
    ref21_Num_L0_l0 k0 k1 fuel s (v : Int) (i : Int) = bif allD (s.data.toList.drop i) then k1 s ((foldV v (s.data.toList.drop i) : Nat) : Int) else k0
  | 0, i, v, fuel + 1, hi, hv, hf => by
    show ref21_Num_L0_s0 _ k0 k1 s (v : Int) (i : Int) = _
    unfold ref21_Num_L0_s0
    rw [dec_f (show ¬ (i : Int) < (s.size : Int) by omega), cond_false, List.drop_eq_nil_of_le (by rw [bl_size]; omega)]
    rfl
  | d + 1, i, v, fuel + 1, hi, hv, hf => by
    have hlt : i < s.data.toList.length := by rw [bl_size]; omega
    have hd : s.data.toList.drop i = s.data.toList[i] :: s.data.toList.drop (i + 1) := by rw [List.drop_eq_getElem_cons hlt]
    have hin : inb (i : Int) s.size = true := inb_t (by omega) (by omega)
    have hv10 : v < 10000000000 := Nat.lt_of_lt_of_le hv (Nat.pow_le_pow_right (by omega) (show i ≤ 10 by omega))
    show ref21_Num_L0_s0 _ k0 k1 s (v : Int) (i : Int) = _
    unfold ref21_Num_L0_s0
    rw [dec_t (show (i : Int) < (s.size : Int) by omega), cond_true, hin, cond_true, bt_get s i hlt, hd]
    have hc := (s.data.toList[i]).toNat_lt
    generalize hcd : s.data.toList[i] = c at *
    have hall : ∀ r, allD (c :: r) = ((decide (48 ≤ c.toNat) && decide (c.toNat ≤ 57)) && allD r) := fun r => rfl
    rw [hall]
    by_cases h1 : (c.toNat : Int) < 48
    · rw [dec_t h1, cond_true, dec_f (show ¬ 48 ≤ c.toNat by omega)]
      rfl
    · rw [dec_f h1, cond_false, dec_t (show 48 ≤ c.toNat by omega), cond_true]
      by_cases h2 : (c.toNat : Int) > 57
      · rw [dec_t h2, cond_true, dec_f (show ¬ c.toNat ≤ 57 by omega)]
        rfl
      · have he : e25 (v : Int) s (i : Int) = ((v * 10 + (c.toNat - 48) : Nat) : Int) := by
          unfold e25
          rw [bt_get s i hlt, hcd, u8_id (by omega) (by omega), i64_id (n := (v : Int) * 10) (by omega) (by omega), i64_id (n := (c.toNat : Int) - 48) (by omega) (by omega), i64_id (by omega) (by omega)]
          omega
        rw [dec_f h2, cond_false, cond_true, dec_t (show c.toNat ≤ 57 by omega), he, i64_id (n := (i : Int) + 1) (by omega) (by omega)]
        have ih := numR_loop s hs k0 k1 d (i + 1) (v * 10 + (c.toNat - 48)) fuel (by omega) (by rw [Nat.pow_succ]; omega) (by omega)
        exact ih
theorem dec_all (u : Nat) : allD (Lib.decDigits u) = true := by
  induction u using Nat.strongRecOn with
  | _ u ih =>
    have hd : ∀ d, d < 10 → (decide (48 ≤ (UInt8.ofNat (48 + d)).toNat) && decide ((UInt8.ofNat (48 + d)).toNat ≤ 57)) = true := fun d h => by
      rw [u8_digit h, dec_t (by omega), dec_t (by omega)]; rfl
    rw [Lib.decDigits]
    split
    · rename_i h
      show ((decide (48 ≤ (UInt8.ofNat (48 + u)).toNat) && decide ((UInt8.ofNat (48 + u)).toNat ≤ 57)) && true) = true
      rw [hd u h]; rfl
    · rename_i h
      have h1 := ih (u / 10) (by omega)
      unfold allD at *
      rw [List.all_append, h1]
      show (true && ((decide (48 ≤ (UInt8.ofNat (48 + u % 10)).toNat) && decide ((UInt8.ofNat (48 + u % 10)).toNat ≤ 57)) && true)) = true
      rw [hd _ (by omega)]; rfl
theorem num_eq (s : ByteArray) {α : Type} (k0 : Option α) (k1 : Int → Option α) : ref21_Num s k0 k1 = bif numOk s then k1 ((numV s : Nat) : Int) else k0 := by
  unfold ref21_Num ref21_Num_T
  have no : (∀ u : Nat, u ≤ 4294967295 → s.data.toList = Lib.decDigits u → False) → numOk s = false := fun h => by
    cases hb : numOk s with
    | false => rfl
    | true => obtain ⟨u, hu, hd⟩ := numOk_spec.1 hb; exact (h u hu hd).elim
  rw [beq_nil]
  cases he : s.data.toList.isEmpty with
  | true =>
    rw [cond_true, no fun u _ hd => dec_ne u (by rw [← hd]; exact List.isEmpty_iff.1 he)]
    rfl
  | false =>
    rw [cond_false]
    by_cases h10 : (s.size : Int) > 10
    · rw [dec_t h10, cond_true, no fun u hu hd => by
        have := dec_len 9 u (by omega)
        rw [← hd, bl_size] at this
        omega]
      rfl
    · rw [dec_f h10, cond_false]
      have hl := numR_loop s (by omega) k0 (fun r_2 r_3 => bif decide (r_3 ≥ 4294967296) then k0 else ref21_Text r_3 (fun r_4 => bif !(r_4.toList == r_2.toList) then k0 else k1 r_3)) s.size 0 0 18446744073709551616 (by omega) (by omega) (by omega)
      rw [List.drop_zero] at hl
      refine Eq.trans hl ?_
      cases ha : allD s.data.toList with
      | false =>
        rw [cond_false, no fun u _ hd => by rw [hd, dec_all] at ha; cases ha]
        rfl
      | true =>
        rw [cond_true, show foldV 0 s.data.toList = numV s from rfl]
        by_cases hv : numV s ≤ 4294967295
        · rw [dec_f (show ¬ ((numV s : Nat) : Int) ≥ 4294967296 by omega), cond_false, text_eq (okI_spec.2 ⟨by omega, by omega⟩), beq_bl]
          have hi : (itoaS ((numV s : Nat) : Int)).data.toList = decL (numV s) := by
            unfold itoaS
            rw [dec_f (show ¬ ((numV s : Nat) : Int) < 0 by omega), cond_false]
            rfl
          rw [hi]
          unfold numOk
          rw [ble_true hv, Bool.true_and]
          cases decL (numV s) == s.data.toList <;> rfl
        · rw [dec_t (show ((numV s : Nat) : Int) ≥ 4294967296 by omega), cond_true]
          unfold numOk
          have : Nat.ble (numV s) 4294967295 = false := by
            cases h : Nat.ble (numV s) 4294967295 with
            | false => rfl
            | true => exact absurd (Nat.le_of_ble_eq_true h) hv
          rw [this]; rfl
def H (n : Nat) : UInt8 := ([48, 49, 50, 51, 52, 53, 54, 55, 56, 57, 97, 98, 99, 100, 101, 102] : List UInt8).getD n 0
def pa (B : Int) : ByteArray := (⟨#[48, 49, 50, 51, 52, 53, 54, 55, 56, 57, 97, 98, 99, 100, 101, 102]⟩ : ByteArray).extract ((shrI .u8 B 4).toNat) (((shrI .u8 B 4).toNat) + (((IntKind.u8.wrap ((shrI .u8 B 4) + 1)).toNat) - ((shrI .u8 B 4).toNat)))
def pb (B : Int) : ByteArray := (⟨#[48, 49, 50, 51, 52, 53, 54, 55, 56, 57, 97, 98, 99, 100, 101, 102]⟩ : ByteArray).extract ((bits .and .u8 B 15).toNat) (((bits .and .u8 B 15).toNat) + (((IntKind.u8.wrap ((bits .and .u8 B 15) + 1)).toNat) - ((bits .and .u8 B 15).toNat)))
def tst (n : Nat) : Bool := inb (IntKind.u8.wrap ((shrI .u8 (n : Int) 4) + 1)) 17 && ((decide (0 ≤ shrI .u8 (n : Int) 4) && decide (shrI .u8 (n : Int) 4 ≤ IntKind.u8.wrap ((shrI .u8 (n : Int) 4) + 1))) && (inb (IntKind.u8.wrap ((bits .and .u8 (n : Int) 15) + 1)) 17 && ((decide (0 ≤ bits .and .u8 (n : Int) 15) && decide (bits .and .u8 (n : Int) 15 ≤ IntKind.u8.wrap ((bits .and .u8 (n : Int) 15) + 1))) && (Nat.ble ((pa n).size + (pb n).size) 4611686018427387904 && (pa n ++ pb n).data.toList == [H (n / 16), H (n % 16)]))))
theorem all256 : ((List.range 256).all tst) = true := by kernel_rfl
structure Byte (B : Int) (n : Nat) : Prop where
  c1 : inb (IntKind.u8.wrap ((shrI .u8 B 4) + 1)) 17 = true
  c2 : (decide (0 ≤ shrI .u8 B 4) && decide (shrI .u8 B 4 ≤ IntKind.u8.wrap ((shrI .u8 B 4) + 1))) = true
  c3 : inb (IntKind.u8.wrap ((bits .and .u8 B 15) + 1)) 17 = true
  c4 : (decide (0 ≤ bits .and .u8 B 15) && decide (bits .and .u8 B 15 ≤ IntKind.u8.wrap ((bits .and .u8 B 15) + 1))) = true
  c5 : Nat.ble ((pa B).size + (pb B).size) 4611686018427387904 = true
  p : (pa B ++ pb B).data.toList = [H (n / 16), H (n % 16)]
theorem byte_ok {B : Int} {n : Nat} (e : B = (n : Int)) (h : n < 256) : Byte B n := by
  subst e
  have := List.all_eq_true.1 all256 n (List.mem_range.2 h)
  simp only [tst, Bool.and_eq_true] at this
  obtain ⟨h1, h2, h3, h4, h5, h6⟩ := this
  exact ⟨h1, by simpa using h2, h3, by simpa using h4, h5, by simpa using h6⟩
def b5 (X : Nat) : Nat := X / 1099511627776 % 256
def b4 (X : Nat) : Nat := X / 4294967296 % 256
def b3 (X : Nat) : Nat := X / 16777216 % 256
def b2 (X : Nat) : Nat := X / 65536 % 256
def b1 (X : Nat) : Nat := X / 256 % 256
def b0' (X : Nat) : Nat := X % 256
def tl (X : Nat) : List UInt8 := [H (b5 X / 16), H (b5 X % 16), 58, H (b4 X / 16), H (b4 X % 16), 58, H (b3 X / 16), H (b3 X % 16), 58, H (b2 X / 16), H (b2 X % 16), 58, H (b1 X / 16), H (b1 X % 16), 58, H (b0' X / 16), H (b0' X % 16)]
theorem w40 (X : Nat) : IntKind.u8.wrap (shrI .u64 (X : Int) 40) = ((b5 X : Nat) : Int) := by rw [b40]; unfold b5; omega
theorem w32 (X : Nat) : IntKind.u8.wrap (shrI .u64 (X : Int) 32) = ((b4 X : Nat) : Int) := by rw [b32]; unfold b4; omega
theorem w24 (X : Nat) : IntKind.u8.wrap (shrI .u64 (X : Int) 24) = ((b3 X : Nat) : Int) := by rw [b24]; unfold b3; omega
theorem w16 (X : Nat) : IntKind.u8.wrap (shrI .u64 (X : Int) 16) = ((b2 X : Nat) : Int) := by rw [b16]; unfold b2; omega
theorem w8 (X : Nat) : IntKind.u8.wrap (shrI .u64 (X : Int) 8) = ((b1 X : Nat) : Int) := by rw [b8]; unfold b1; omega
theorem w0 (X : Nat) : IntKind.u8.wrap (shrI .u64 (X : Int) 0) = ((b0' X : Nat) : Int) := by rw [Ve.b0]; unfold b0'; omega
def D : List UInt8 := (⟨#[48, 49, 50, 51, 52, 53, 54, 55, 56, 57, 97, 98, 99, 100, 101, 102]⟩ : ByteArray).data.toList
def hv (p : ByteArray) (t : Int) : Int := Lib.indexByte D (bt p t).toNat.toUInt8
def gp (p : ByteArray) : Bool := p.size == 2 && (decide (0 ≤ hv p 0) && decide (0 ≤ hv p 1))
def vp (p : ByteArray) : Int := IntKind.u8.wrap (bits .or .i64 (shlI .i64 (hv p 0) 4) (hv p 1))
def dig (c : Nat) : Bool := Lib.indexByte D c.toUInt8 == -1 || (decide (0 ≤ Lib.indexByte D c.toUInt8) && (decide (Lib.indexByte D c.toUInt8 < 16) && H (Lib.indexByte D c.toUInt8).toNat == c.toUInt8))
theorem dig_all : ((List.range 256).all dig) = true := by kernel_rfl
theorem dig_ok (c : UInt8) (h : 0 ≤ Lib.indexByte D c) : ∃ n : Nat, n < 16 ∧ Lib.indexByte D c = (n : Int) ∧ c = H n := by
  have e : c.toNat.toUInt8 = c := UInt8.ofNat_toNat
  have := List.all_eq_true.1 dig_all c.toNat (List.mem_range.2 c.toNat_lt)
  simp only [dig, e, Bool.or_eq_true, Bool.and_eq_true, beq_iff_eq, decide_eq_true_eq] at this
  rcases this with h1 | ⟨h1, h2, h3⟩
  · omega
  · exact ⟨(Lib.indexByte D c).toNat, by omega, by omega, h3.symm⟩
def undig (n : Nat) : Bool := Lib.indexByte D (H n) == (n : Int) && !(H n == 58)
theorem undig_all : ((List.range 16).all undig) = true := by kernel_rfl
theorem undig_ok (n : Nat) (h : n < 16) : Lib.indexByte D (H n) = (n : Int) ∧ H n ≠ 58 := by
  have := List.all_eq_true.1 undig_all n (List.mem_range.2 h)
  simpa [undig] using this
def twod : Bool := (List.range 16).all fun n => (List.range 16).all fun m => IntKind.u8.wrap (bits .or .i64 (shlI .i64 (n : Int) 4) (m : Int)) == ((n * 16 + m : Nat) : Int)
theorem twod_all : twod = true := by kernel_rfl
theorem twod_ok (n m : Nat) (hn : n < 16) (hm : m < 16) : IntKind.u8.wrap (bits .or .i64 (shlI .i64 (n : Int) 4) (m : Int)) = ((n * 16 + m : Nat) : Int) := by
  have := List.all_eq_true.1 (List.all_eq_true.1 twod_all n (List.mem_range.2 hn)) m (List.mem_range.2 hm)
  simpa using this
theorem bt0 (x y : UInt8) : (bt ⟨#[x, y]⟩ 0).toNat.toUInt8 = x := by
  show (((x.toNat : Int)).toNat).toUInt8 = x
  rw [Int.toNat_natCast]
  exact UInt8.ofNat_toNat
theorem bt1 (x y : UInt8) : (bt ⟨#[x, y]⟩ 1).toNat.toUInt8 = y := by
  show (((y.toNat : Int)).toNat).toUInt8 = y
  rw [Int.toNat_natCast]
  exact UInt8.ofNat_toNat
theorem gp_of {n m : Nat} (hn : n < 16) (hm : m < 16) : gp ⟨#[H n, H m]⟩ = true ∧ vp ⟨#[H n, H m]⟩ = ((n * 16 + m : Nat) : Int) := by
  have q0 : hv ⟨#[H n, H m]⟩ 0 = (n : Int) := by unfold hv; rw [bt0]; exact (undig_ok n hn).1
  have q1 : hv ⟨#[H n, H m]⟩ 1 = (m : Int) := by unfold hv; rw [bt1]; exact (undig_ok m hm).1
  constructor
  · unfold gp
    rw [q0, q1, dec_t (by omega), dec_t (by omega)]
    rfl
  · unfold vp
    rw [q0, q1, twod_ok n m hn hm]
theorem of_gp {p : ByteArray} (h : gp p = true) : ∃ n m : Nat, n < 16 ∧ m < 16 ∧ p = ⟨#[H n, H m]⟩ := by
  simp only [gp, Bool.and_eq_true, beq_iff_eq, decide_eq_true_eq] at h
  obtain ⟨h1, h2, h3⟩ := h
  obtain ⟨x, y, rfl⟩ : ∃ x y, p = ⟨#[x, y]⟩ := by
    obtain ⟨⟨l⟩⟩ := p
    match l, h1 with
    | [x, y], _ => exact ⟨x, y, rfl⟩
  unfold hv at h2 h3
  rw [bt0] at h2
  rw [bt1] at h3
  obtain ⟨n, hn, _, rfl⟩ := dig_ok x h2
  obtain ⟨m, hm, _, rfl⟩ := dig_ok y h3
  exact ⟨n, m, hn, hm, rfl⟩
theorem bndM {n : Nat} (h : n ≤ 200000) : Nat.ble (n * 1) bound = true := ble_true (by unfold bound; omega)
theorem e5_hv (row : Nat → Nat → PV) (i : Nat) : e5 row (i : Int) = hv (textOf (row i 0)) 0 := by unfold e5; rw [Int.toNat_natCast]; rfl
theorem e6_hv (row : Nat → Nat → PV) (i : Nat) : e6 row (i : Int) = hv (textOf (row i 0)) 1 := by unfold e6; rw [Int.toNat_natCast]; rfl
theorem e7_vp (row : Nat → Nat → PV) (i : Nat) : e7 row (i : Int) = rowOf 1 [.val (.int .u8 (vp (textOf (row i 0))))] := by unfold e7; rw [e5_hv, e6_hv]; rfl
theorem step_end {α : Type} (k0 : Option α) (k1 : Bool → Nat → (Nat → Nat → PV) → Option α) (m N n : Nat) (nl : Bool) (f row : Nat → Nat → PV) : mac_Parse_L0_l0 k0 k1 (m + 1) (N : Int) (N : Int) nl n f N row = k1 nl n f := by
  show mac_Parse_L0_s0 _ k0 k1 (N : Int) (N : Int) nl n f N row = _
  unfold mac_Parse_L0_s0
  rw [dec_f (Int.lt_irrefl _), cond_false]
theorem step_bad {α : Type} (k0 : Option α) (k1 : Bool → Nat → (Nat → Nat → PV) → Option α) (m N i n : Nat) (nl : Bool) (f row : Nat → Nat → PV) (hi : i < N) (hb : gp (textOf (row i 0)) = false) : mac_Parse_L0_l0 k0 k1 (m + 1) (N : Int) (i : Int) nl n f N row = k0 := by
  show mac_Parse_L0_s0 _ k0 k1 (N : Int) (i : Int) nl n f N row = _
  unfold mac_Parse_L0_s0
  rw [dec_t (show (i : Int) < (N : Int) by omega), inb_t (show (0 : Int) ≤ (i : Int) by omega) (show (i : Int) < (N : Int) by omega), cond_true, cond_true, e5_hv, e6_hv, Int.toNat_natCast]
  unfold gp at hb
  generalize textOf (row i 0) = p at *
  by_cases h2 : p.size = 2
  · rw [h2, show (((2 : Nat) : Int) != 2) = false from rfl, cond_false, inb_t (show (0 : Int) ≤ 0 by omega) (show (0 : Int) < ((2 : Nat) : Int) by omega), inb_t (show (0 : Int) ≤ 1 by omega) (show (1 : Int) < ((2 : Nat) : Int) by omega), cond_true, cond_true]
    by_cases h3 : hv p 0 < 0
    · rw [dec_t h3, cond_true]
    · rw [dec_f h3, cond_false]
      by_cases h4 : hv p 1 < 0
      · rw [dec_t h4, cond_true]
      · rw [h2, dec_t (show 0 ≤ hv p 0 by omega), dec_t (show 0 ≤ hv p 1 by omega)] at hb
        cases hb
  · rw [show ((p.size : Int) != 2) = true from bne_iff_ne.2 (by omega), cond_true]
theorem step_good {α : Type} (k0 : Option α) (k1 : Bool → Nat → (Nat → Nat → PV) → Option α) (m N i n : Nat) (nl : Bool) (f row : Nat → Nat → PV) (hi : i < N) (hN : N ≤ 1000) (hn : n ≤ 1000) (hb : gp (textOf (row i 0)) = true) : mac_Parse_L0_l0 k0 k1 (m + 1) (N : Int) (i : Int) nl n f N row = mac_Parse_L0_l0 k0 k1 m (N : Int) ((i + 1 : Nat) : Int) (nl && false) (n + 1) (catf n f (rowOf 1 [.val (.int .u8 (vp (textOf (row i 0))))])) N row := by
  show mac_Parse_L0_s0 (mac_Parse_L0_l0 k0 k1 m) k0 k1 (N : Int) (i : Int) nl n f N row = _
  unfold mac_Parse_L0_s0
  rw [dec_t (show (i : Int) < (N : Int) by omega), inb_t (show (0 : Int) ≤ (i : Int) by omega) (show (i : Int) < (N : Int) by omega), cond_true, cond_true, e5_hv, e6_hv, e7_vp, Int.toNat_natCast]
  simp only [gp, Bool.and_eq_true, beq_iff_eq, decide_eq_true_eq] at hb
  obtain ⟨h1, h2, h3⟩ := hb
  rw [h1, show (((2 : Nat) : Int) != 2) = false from rfl, cond_false, inb_t (show (0 : Int) ≤ 0 by omega) (show (0 : Int) < ((2 : Nat) : Int) by omega), inb_t (show (0 : Int) ≤ 1 by omega) (show (1 : Int) < ((2 : Nat) : Int) by omega), cond_true, cond_true, dec_f (show ¬ hv (textOf (row i 0)) 0 < 0 by omega), dec_f (show ¬ hv (textOf (row i 0)) 1 < 0 by omega), cond_false, cond_false, bndM (show n + 1 ≤ 200000 by omega), cond_true, i64_id (by omega) (by omega)]
  rfl
theorem loop_bad {N : Nat} {row : Nat → Nat → PV} (hN : N ≤ 1000) : ∀ (r m i : Nat) (nl : Bool) (f : Nat → Nat → PV), i + r = N → r < m → (∃ j, i ≤ j ∧ j < N ∧ gp (textOf (row j 0)) = false) → ∀ (α : Type) (k0 : Option α) k1, mac_Parse_L0_l0 k0 k1 m (N : Int) (i : Int) nl i f N row = k0
  | 0, m, i, nl, f, hi, hm, ⟨j, h1, h2, _⟩ => by omega
  | r + 1, 0, i, nl, f, hi, hm, _ => by omega
  | r + 1, m + 1, i, nl, f, hi, hm, ⟨j, h1, h2, h3⟩ => by
    intro α k0 k1
    cases hg : gp (textOf (row i 0)) with
    | false => exact step_bad k0 k1 m N i i nl f row (by omega) hg
    | true =>
      rw [step_good k0 k1 m N i i nl f row (by omega) hN (by omega) hg]
      have hne : j ≠ i := fun e => by rw [e, hg] at h3; cases h3
      exact loop_bad hN r m (i + 1) _ _ (by omega) (by omega) ⟨j, by omega, h2, h3⟩ α k0 k1
theorem loop_good {N : Nat} {row : Nat → Nat → PV} (hN : N ≤ 1000) : ∀ (r m i : Nat) (nl : Bool) (f : Nat → Nat → PV), i + r = N → r < m → (∀ j, i ≤ j → j < N → gp (textOf (row j 0)) = true) → ∃ nl' f', (∀ j, j < i → f' j 0 = f j 0) ∧ (∀ j, i ≤ j → j < N → numOf (f' j 0) = vp (textOf (row j 0))) ∧ ∀ (α : Type) (k0 : Option α) k1, mac_Parse_L0_l0 k0 k1 m (N : Int) (i : Int) nl i f N row = k1 nl' N f'
  | 0, 0, i, nl, f, hi, hm, _ => by omega
  | 0, m + 1, i, nl, f, hi, hm, _ => by
    obtain rfl : i = N := by omega
    exact ⟨nl, f, fun _ _ => rfl, fun j h1 h2 => by omega, fun α k0 k1 => step_end k0 k1 m i i nl f row⟩
  | r + 1, 0, i, nl, f, hi, hm, _ => by omega
  | r + 1, m + 1, i, nl, f, hi, hm, h => by
    have hg := h i (Nat.le_refl i) (by omega)
    obtain ⟨nl', f', k1, k2, k3⟩ := loop_good hN r m (i + 1) (nl && false) (catf i f (rowOf 1 [.val (.int .u8 (vp (textOf (row i 0))))])) (by omega) (by omega) (fun j h1 h2 => h j (by omega) h2)
    refine ⟨nl', f', fun j hj => ?_, fun j h1 h2 => ?_, fun α q0 q1 => ?_⟩
    · rw [k1 j (by omega), catf_lo hj]
    · by_cases hj : j = i
      · subst hj
        rw [k1 j (by omega)]
        have := catf_hi j f (rowOf 1 [.val (.int .u8 (vp (textOf (row j 0))))]) 0 0
        rw [Nat.add_zero] at this
        rw [this]
        rfl
      · exact k2 j (by omega) h2
    · rw [step_good q0 q1 m N i i nl f row (by omega) hN (by omega) hg, k3]
def qa (B : Int) : ByteArray := (⟨#[48, 49, 50, 51, 52, 53, 54, 55, 56, 57, 97, 98, 99, 100, 101, 102]⟩ : ByteArray).extract ((IntKind.u8.wrap (B.tdiv 16)).toNat) (((IntKind.u8.wrap (B.tdiv 16)).toNat) + (((IntKind.u8.wrap ((IntKind.u8.wrap (B.tdiv 16)) + 1)).toNat) - ((IntKind.u8.wrap (B.tdiv 16)).toNat)))
def qb (B : Int) : ByteArray := (⟨#[48, 49, 50, 51, 52, 53, 54, 55, 56, 57, 97, 98, 99, 100, 101, 102]⟩ : ByteArray).extract ((B.tmod 16).toNat) (((B.tmod 16).toNat) + (((IntKind.u8.wrap ((B.tmod 16) + 1)).toNat) - ((B.tmod 16).toNat)))
def tst2 (n : Nat) : Bool := inb (IntKind.u8.wrap ((IntKind.u8.wrap ((n : Int).tdiv 16)) + 1)) 17 && ((decide (0 ≤ IntKind.u8.wrap ((n : Int).tdiv 16)) && decide (IntKind.u8.wrap ((n : Int).tdiv 16) ≤ IntKind.u8.wrap ((IntKind.u8.wrap ((n : Int).tdiv 16)) + 1))) && (inb (IntKind.u8.wrap (((n : Int).tmod 16) + 1)) 17 && ((decide (0 ≤ (n : Int).tmod 16) && decide ((n : Int).tmod 16 ≤ IntKind.u8.wrap (((n : Int).tmod 16) + 1))) && (Nat.ble ((qa n).size + (qb n).size) 4611686018427387904 && (qa n ++ qb n).data.toList == [H (n / 16), H (n % 16)]))))
theorem all256r : ((List.range 256).all tst2) = true := by kernel_rfl
structure Byte2 (B : Int) (n : Nat) : Prop where
  c1 : inb (IntKind.u8.wrap ((IntKind.u8.wrap (B.tdiv 16)) + 1)) 17 = true
  c2 : (decide (0 ≤ IntKind.u8.wrap (B.tdiv 16)) && decide (IntKind.u8.wrap (B.tdiv 16) ≤ IntKind.u8.wrap ((IntKind.u8.wrap (B.tdiv 16)) + 1))) = true
  c3 : inb (IntKind.u8.wrap ((B.tmod 16) + 1)) 17 = true
  c4 : (decide (0 ≤ B.tmod 16) && decide (B.tmod 16 ≤ IntKind.u8.wrap ((B.tmod 16) + 1))) = true
  c5 : Nat.ble ((qa B).size + (qb B).size) 4611686018427387904 = true
  p : qa B ++ qb B = ⟨#[H (n / 16), H (n % 16)]⟩
theorem ba_ext {a : ByteArray} {l : List UInt8} (h : a.data.toList = l) : a = ⟨l.toArray⟩ := by
  obtain ⟨⟨a⟩⟩ := a
  subst h
  rfl
theorem byte2_ok {B : Int} {n : Nat} (e : B = (n : Int)) (h : n < 256) : Byte2 B n := by
  subst e
  have := List.all_eq_true.1 all256r n (List.mem_range.2 h)
  simp only [tst2, Bool.and_eq_true] at this
  obtain ⟨h1, h2, h3, h4, h5, h6⟩ := this
  exact ⟨h1, by simpa using h2, h3, by simpa using h4, h5, ba_ext (by simpa using h6)⟩
theorem wx (X : Nat) : IntKind.u8.wrap (X : Int) = ((b0' X : Nat) : Int) := by rw [wrap_u8]; unfold b0'; omega
theorem ref_text (X : Nat) (hX : X < 281474976710656) (α : Type) (k0 : ByteArray → Option α) : ref09_Text (X : Int) k0 = k0 ⟨(tl X).toArray⟩ := by
  have f5 := byte2_ok (w40 X) (by unfold b5; omega)
  have f4 := byte2_ok (w32 X) (by unfold b4; omega)
  have f3 := byte2_ok (w24 X) (by unfold b3; omega)
  have f2 := byte2_ok (w16 X) (by unfold b2; omega)
  have f1 := byte2_ok (w8 X) (by unfold b1; omega)
  have f0 := byte2_ok (wx X) (by unfold b0'; omega)
  have s5 : Nat.ble ((e30 X).size + (e31 X).size) 4611686018427387904 = true := f5.c5
  have s4 : Nat.ble ((e32 X).size + (e33 X).size) 4611686018427387904 = true := f4.c5
  have s3 : Nat.ble ((e35 X).size + (e36 X).size) 4611686018427387904 = true := f3.c5
  have s2 : Nat.ble ((e38 X).size + (e39 X).size) 4611686018427387904 = true := f2.c5
  have s1 : Nat.ble ((e40 X).size + (e41 X).size) 4611686018427387904 = true := f1.c5
  have s0 : Nat.ble ((e43 X).size + (e44 X).size) 4611686018427387904 = true := f0.c5
  have p5 : (e30 X) ++ (e31 X) = ⟨#[H (b5 X / 16), H (b5 X % 16)]⟩ := f5.p
  have p4 : (e32 X) ++ (e33 X) = ⟨#[H (b4 X / 16), H (b4 X % 16)]⟩ := f4.p
  have p3 : (e35 X) ++ (e36 X) = ⟨#[H (b3 X / 16), H (b3 X % 16)]⟩ := f3.p
  have p2 : (e38 X) ++ (e39 X) = ⟨#[H (b2 X / 16), H (b2 X % 16)]⟩ := f2.p
  have p1 : (e40 X) ++ (e41 X) = ⟨#[H (b1 X / 16), H (b1 X % 16)]⟩ := f1.p
  have p0 : (e43 X) ++ (e44 X) = ⟨#[H (b0' X / 16), H (b0' X % 16)]⟩ := f0.p
  have q16 : e34 X = ⟨#[H (b5 X / 16), H (b5 X % 16), 58, H (b4 X / 16), H (b4 X % 16)]⟩ := by unfold e34; rw [p5, p4]; rfl
  have q19 : e37 X = ⟨#[H (b5 X / 16), H (b5 X % 16), 58, H (b4 X / 16), H (b4 X % 16), 58, H (b3 X / 16), H (b3 X % 16), 58]⟩ := by unfold e37; rw [q16, p3]; rfl
  have q24 : e42 X = ⟨#[H (b5 X / 16), H (b5 X % 16), 58, H (b4 X / 16), H (b4 X % 16), 58, H (b3 X / 16), H (b3 X % 16), 58, H (b2 X / 16), H (b2 X % 16), 58, H (b1 X / 16), H (b1 X % 16)]⟩ := by unfold e42; rw [q19, p2, p1]; rfl
  unfold ref09_Text ref09_Text_T
  rw [dec_t (show (X : Int) < 281474976710656 by omega)]
  rw [f5.c1, f5.c2, f5.c3, f5.c4, s5, f4.c1, f4.c2, f4.c3, f4.c4, s4, f3.c1, f3.c2, f3.c3, f3.c4, s3, f2.c1, f2.c2, f2.c3, f2.c4, s2, f1.c1, f1.c2, f1.c3, f1.c4, s1, f0.c1, f0.c2, f0.c3, f0.c4, s0, p5, p4, p3, p2, p1, p0, q16, q19, q24]
  rfl
def S (r : Nat → Nat → PV) : Int := ((((numOf (r 0 0) * 256 + numOf (r 1 0)) * 256 + numOf (r 2 0)) * 256 + numOf (r 3 0)) * 256 + numOf (r 4 0)) * 256 + numOf (r 5 0)
theorem of0 {α : Type} (k0 : Int → Option α) (m : Nat) (x : Int) (nl : Bool) (r : Nat → Nat → PV) : mac_Of_L0_l0 k0 (m + 1) x nl 6 r 6 0 = mac_Of_L0_l0 k0 m (bits .or .u64 (shlI .u64 x 8) (IntKind.u64.wrap (numOf (r 0 0)))) nl 6 r 6 1 := by kernel_rfl
theorem of1 {α : Type} (k0 : Int → Option α) (m : Nat) (x : Int) (nl : Bool) (r : Nat → Nat → PV) : mac_Of_L0_l0 k0 (m + 1) x nl 6 r 6 1 = mac_Of_L0_l0 k0 m (bits .or .u64 (shlI .u64 x 8) (IntKind.u64.wrap (numOf (r 1 0)))) nl 6 r 6 2 := by kernel_rfl
theorem of2 {α : Type} (k0 : Int → Option α) (m : Nat) (x : Int) (nl : Bool) (r : Nat → Nat → PV) : mac_Of_L0_l0 k0 (m + 1) x nl 6 r 6 2 = mac_Of_L0_l0 k0 m (bits .or .u64 (shlI .u64 x 8) (IntKind.u64.wrap (numOf (r 2 0)))) nl 6 r 6 3 := by kernel_rfl
theorem of3 {α : Type} (k0 : Int → Option α) (m : Nat) (x : Int) (nl : Bool) (r : Nat → Nat → PV) : mac_Of_L0_l0 k0 (m + 1) x nl 6 r 6 3 = mac_Of_L0_l0 k0 m (bits .or .u64 (shlI .u64 x 8) (IntKind.u64.wrap (numOf (r 3 0)))) nl 6 r 6 4 := by kernel_rfl
theorem of4 {α : Type} (k0 : Int → Option α) (m : Nat) (x : Int) (nl : Bool) (r : Nat → Nat → PV) : mac_Of_L0_l0 k0 (m + 1) x nl 6 r 6 4 = mac_Of_L0_l0 k0 m (bits .or .u64 (shlI .u64 x 8) (IntKind.u64.wrap (numOf (r 4 0)))) nl 6 r 6 5 := by kernel_rfl
theorem of5 {α : Type} (k0 : Int → Option α) (m : Nat) (x : Int) (nl : Bool) (r : Nat → Nat → PV) : mac_Of_L0_l0 k0 (m + 1) x nl 6 r 6 5 = mac_Of_L0_l0 k0 m (bits .or .u64 (shlI .u64 x 8) (IntKind.u64.wrap (numOf (r 5 0)))) nl 6 r 6 6 := by kernel_rfl
theorem of6 {α : Type} (k0 : Int → Option α) (m : Nat) (x : Int) (nl : Bool) (r : Nat → Nat → PV) : mac_Of_L0_l0 k0 (m + 1) x nl 6 r 6 6 = k0 x := by kernel_rfl
theorem mac_of (nl : Bool) (r : Nat → Nat → PV) (h : ∀ j, j < 6 → 0 ≤ numOf (r j 0) ∧ numOf (r j 0) ≤ 255) (α : Type) (k : Int → Int → Option α) : mac_Of nl 6 r k = k (S r) 0 := by
  have h0 := h 0 (by omega)
  have h1 := h 1 (by omega)
  have h2 := h 2 (by omega)
  have h3 := h 3 (by omega)
  have h4 := h 4 (by omega)
  have h5 := h 5 (by omega)
  have e : mac_Of nl 6 r k = mac_Of_L0_l0 (fun x => k x 0) (1152921504606846969 + 1 + 1 + 1 + 1 + 1 + 1 + 1) 0 nl 6 r 6 0 := by kernel_rfl
  rw [e, of0, of1, of2, of3, of4, of5, of6]
  unfold S
  rw [orv 0 _ (by omega) (by omega) (by omega) (by omega), show (0 : Int) * 256 + numOf (r 0 0) = numOf (r 0 0) by omega]
  rw [orv (numOf (r 0 0)) (numOf (r 1 0)) (by omega) (by omega) (by omega) (by omega), orv (numOf (r 0 0) * 256 + numOf (r 1 0)) (numOf (r 2 0)) (by omega) (by omega) (by omega) (by omega), orv ((numOf (r 0 0) * 256 + numOf (r 1 0)) * 256 + numOf (r 2 0)) (numOf (r 3 0)) (by omega) (by omega) (by omega) (by omega), orv (((numOf (r 0 0) * 256 + numOf (r 1 0)) * 256 + numOf (r 2 0)) * 256 + numOf (r 3 0)) (numOf (r 4 0)) (by omega) (by omega) (by omega) (by omega), orv ((((numOf (r 0 0) * 256 + numOf (r 1 0)) * 256 + numOf (r 2 0)) * 256 + numOf (r 3 0)) * 256 + numOf (r 4 0)) (numOf (r 5 0)) (by omega) (by omega) (by omega) (by omega)]
theorem mac_no (nl : Bool) (N : Nat) (hN : N ≠ 6) (r : Nat → Nat → PV) (α : Type) (k : Int → Int → Option α) : mac_Of nl N r k = k 0 11 := by
  unfold mac_Of mac_Of_T
  rw [show ((N : Int) != 6) = true from bne_iff_ne.2 (by omega), cond_true]
theorem split_step (x y : UInt8) (r : List UInt8) (hx : x ≠ 58) (hy : y ≠ 58) (k : Nat) : Lib.splitK [58] 0 (k + 1) (x :: y :: 58 :: r) = [x, y] :: Lib.splitK [58] 0 k r := by
  have h : Lib.index (x :: y :: 58 :: r) [58] = 2 := by
    rw [Lib.index_one]
    simp [Lib.indexByte, hx, hy]
  rw [Lib.splitK, h]
  rfl
theorem cnt_step (x y : UInt8) (r : List UInt8) (hx : x ≠ 58) (hy : y ≠ 58) : (x :: y :: 58 :: r).count 58 = r.count 58 + 1 := by
  simp [List.count_cons, hx, hy]
theorem Hne {n : Nat} (h : n < 16) : H n ≠ 58 := (undig_ok n h).2
def six' (v : Nat) : List ByteArray := [⟨#[H (b5 v / 16), H (b5 v % 16)]⟩, ⟨#[H (b4 v / 16), H (b4 v % 16)]⟩, ⟨#[H (b3 v / 16), H (b3 v % 16)]⟩, ⟨#[H (b2 v / 16), H (b2 v % 16)]⟩, ⟨#[H (b1 v / 16), H (b1 v % 16)]⟩, ⟨#[H (b0' v / 16), H (b0' v % 16)]⟩]
theorem text_pieces (X : Nat) : splitL ⟨(tl X).toArray⟩ ⟨#[58]⟩ = six' X := by
  have l5 : b5 X < 256 := by unfold b5; omega
  have l4 : b4 X < 256 := by unfold b4; omega
  have l3 : b3 X < 256 := by unfold b3; omega
  have l2 : b2 X < 256 := by unfold b2; omega
  have l1 : b1 X < 256 := by unfold b1; omega
  have l0 : b0' X < 256 := by unfold b0'; omega
  rw [splitL_eq]
  show (Lib.splitK [58] 0 ((tl X).count 58) (tl X)).map (fun l => (⟨l.toArray⟩ : ByteArray)) = _
  have hc : (tl X).count 58 = 5 := by
    unfold tl
    rw [cnt_step _ _ _ (Hne (by omega)) (Hne (by omega)), cnt_step _ _ _ (Hne (by omega)) (Hne (by omega)), cnt_step _ _ _ (Hne (by omega)) (Hne (by omega)), cnt_step _ _ _ (Hne (by omega)) (Hne (by omega)), cnt_step _ _ _ (Hne (by omega)) (Hne (by omega))]
    simp [List.count_cons, Hne (show b0' X / 16 < 16 by omega), Hne (show b0' X % 16 < 16 by omega)]
  rw [hc]
  unfold tl
  rw [split_step _ _ _ (Hne (by omega)) (Hne (by omega)), split_step _ _ _ (Hne (by omega)) (Hne (by omega)), split_step _ _ _ (Hne (by omega)) (Hne (by omega)), split_step _ _ _ (Hne (by omega)) (Hne (by omega)), split_step _ _ _ (Hne (by omega)) (Hne (by omega))]
  rfl
theorem split_len (s : ByteArray) (hs : s.size ≤ 200) : splitN s ⟨#[58]⟩ ≤ 201 := by
  have h1 := Lib.splitB_all ⟨#[58]⟩ (Nat.le_refl 1) 0 _ s rfl
  have h2 := Lib.countB_le ⟨#[58]⟩ (Nat.le_refl 1) s.size s (Nat.le_refl _)
  unfold splitN splitL
  omega
theorem parse_open (s : ByteArray) (hs : s.size ≤ 200) (α : Type) (k : Int → Int → Option α) : mac_Parse s k = mac_Parse_L0_l0 (k 0 11) (fun nl n f => mac_Of nl n f k) 18446744073709551616 ((splitN s ⟨#[58]⟩ : Nat) : Int) ((0 : Nat) : Int) true 0 (fun _ _ => .val undef) (splitN s ⟨#[58]⟩) (splitRow s ⟨#[58]⟩) := by
  unfold mac_Parse mac_Parse_T
  rw [show splitOk s ⟨#[58]⟩ = true by unfold splitOk; rw [ble_true (show s.size ≤ 4294967280 by omega)]; rfl, cond_true]
  rfl
theorem parse_six (s : ByteArray) (hs : s.size ≤ 200) (p0 p1 p2 p3 p4 p5 : ByteArray) (h : splitL s ⟨#[58]⟩ = [p0, p1, p2, p3, p4, p5]) (g0 : gp p0 = true) (g1 : gp p1 = true) (g2 : gp p2 = true) (g3 : gp p3 = true) (g4 : gp p4 = true) (g5 : gp p5 = true) (v : Nat) (hv : (v : Int) = ((((vp p0 * 256 + vp p1) * 256 + vp p2) * 256 + vp p3) * 256 + vp p4) * 256 + vp p5)
    (hb : ∀ p, p ∈ [p0, p1, p2, p3, p4, p5] → 0 ≤ vp p ∧ vp p ≤ 255) (α : Type) (k : Int → Int → Option α) : mac_Parse s k = k (v : Int) 0 := by
  have hN : splitN s ⟨#[58]⟩ = 6 := by unfold splitN; rw [h]; rfl
  have ht : ∀ j, textOf (splitRow s ⟨#[58]⟩ j 0) = [p0, p1, p2, p3, p4, p5].getD j ⟨#[]⟩ := fun j => by show (splitL s ⟨#[58]⟩).getD j ⟨#[]⟩ = _; rw [h]
  obtain ⟨nl, f, _, q2, q3⟩ := loop_good (N := 6) (row := splitRow s ⟨#[58]⟩) (by omega) 6 18446744073709551616 0 true (fun _ _ => .val undef) (by omega) (by omega) (fun j _ hj => by
    rw [ht]
    match j, hj with
    | 0, _ => exact g0
    | 1, _ => exact g1
    | 2, _ => exact g2
    | 3, _ => exact g3
    | 4, _ => exact g4
    | 5, _ => exact g5)
  have e : ∀ j, j < 6 → numOf (f j 0) = vp ([p0, p1, p2, p3, p4, p5].getD j ⟨#[]⟩) := fun j hj => by rw [q2 j (Nat.zero_le j) hj, ht]
  rw [parse_open s hs, hN, q3, mac_of nl f (fun j hj => by
    rw [e j hj]
    refine hb _ ?_
    match j, hj with
    | 0, _ => simp
    | 1, _ => simp
    | 2, _ => simp
    | 3, _ => simp
    | 4, _ => simp
    | 5, _ => simp)]
  congr 1
  unfold S
  rw [e 0 (by omega), e 1 (by omega), e 2 (by omega), e 3 (by omega), e 4 (by omega), e 5 (by omega)]
  exact hv.symm
theorem parse_text (X : Nat) (hX : X < 281474976710656) (α : Type) (k : Int → Int → Option α) : mac_Parse ⟨(tl X).toArray⟩ k = k (X : Int) 0 := by
  have l5 : b5 X < 256 := by unfold b5; omega
  have l4 : b4 X < 256 := by unfold b4; omega
  have l3 : b3 X < 256 := by unfold b3; omega
  have l2 : b2 X < 256 := by unfold b2; omega
  have l1 : b1 X < 256 := by unfold b1; omega
  have l0 : b0' X < 256 := by unfold b0'; omega
  obtain ⟨g5, v5⟩ := gp_of (show b5 X / 16 < 16 by omega) (show b5 X % 16 < 16 by omega)
  obtain ⟨g4, v4⟩ := gp_of (show b4 X / 16 < 16 by omega) (show b4 X % 16 < 16 by omega)
  obtain ⟨g3, v3⟩ := gp_of (show b3 X / 16 < 16 by omega) (show b3 X % 16 < 16 by omega)
  obtain ⟨g2, v2⟩ := gp_of (show b2 X / 16 < 16 by omega) (show b2 X % 16 < 16 by omega)
  obtain ⟨g1, v1⟩ := gp_of (show b1 X / 16 < 16 by omega) (show b1 X % 16 < 16 by omega)
  obtain ⟨g0, v0⟩ := gp_of (show b0' X / 16 < 16 by omega) (show b0' X % 16 < 16 by omega)
  refine parse_six ⟨(tl X).toArray⟩ (by show 17 ≤ 200; omega) _ _ _ _ _ _ (text_pieces X) g5 g4 g3 g2 g1 g0 X ?_ ?_ α k
  · rw [v5, v4, v3, v2, v1, v0]
    unfold b5 b4 b3 b2 b1 b0'
    omega
  · intro p hp
    simp only [List.mem_cons, List.not_mem_nil, or_false] at hp
    rcases hp with rfl | rfl | rfl | rfl | rfl | rfl
    · rw [v5]; omega
    · rw [v4]; omega
    · rw [v3]; omega
    · rw [v2]; omega
    · rw [v1]; omega
    · rw [v0]; omega
theorem tl_inj (X Y : Nat) (hX : X < 281474976710656) (hY : Y < 281474976710656) (h : tl X = tl Y) : X = Y := by
  have h1 := parse_text X hX Int (fun v _ => some v)
  rw [h, parse_text Y hY Int (fun v _ => some v)] at h1
  injection h1 with h1
  omega
theorem parse_cases (s : ByteArray) (hs : s.size ≤ 200) : (∀ (α : Type) (k : Int → Int → Option α), mac_Parse s k = k 0 11) ∨ ∃ v : Nat, v < 281474976710656 ∧ s.data.toList = tl v ∧ ∀ (α : Type) (k : Int → Int → Option α), mac_Parse s k = k (v : Int) 0 := by
  have hN := split_len s hs
  by_cases hbad : ∃ j, 0 ≤ j ∧ j < splitN s ⟨#[58]⟩ ∧ gp (textOf (splitRow s ⟨#[58]⟩ j 0)) = false
  · refine .inl fun α k => ?_
    rw [parse_open s hs]
    exact loop_bad (by omega) (splitN s ⟨#[58]⟩) _ 0 _ _ (by omega) (by omega) hbad α _ _
  have hgood : ∀ j, 0 ≤ j → j < splitN s ⟨#[58]⟩ → gp (textOf (splitRow s ⟨#[58]⟩ j 0)) = true := fun j h0 h1 => by
    cases hg : gp (textOf (splitRow s ⟨#[58]⟩ j 0)) with
    | true => rfl
    | false => exact absurd ⟨j, h0, h1, hg⟩ hbad
  by_cases h6 : splitN s ⟨#[58]⟩ = 6
  rotate_left
  · refine .inl fun α k => ?_
    obtain ⟨nl, f, _, _, q3⟩ := loop_good (by omega) (splitN s ⟨#[58]⟩) 18446744073709551616 0 true (fun _ _ => .val undef) (by omega) (by omega) hgood
    rw [parse_open s hs, q3, mac_no nl _ h6]
  · have hd := Lib.splitB_data ⟨#[58]⟩ 0 (Lib.countB s ⟨#[58]⟩) s
    have hj := splitK_join 58 (Lib.countB s ⟨#[58]⟩) s.data.toList
    rw [show (⟨#[58]⟩ : ByteArray).data.toList = [58] from rfl] at hd
    rw [← hd] at hj
    have hl : (splitL s ⟨#[58]⟩).length = 6 := h6
    have hg : ∀ j, j < 6 → gp ((splitL s ⟨#[58]⟩).getD j ⟨#[]⟩) = true := fun j h => hgood j (Nat.zero_le j) (by rw [h6]; exact h)
    change Lib.join ((splitL s ⟨#[58]⟩).map (·.data.toList)) [58] = s.data.toList at hj
    generalize hL : splitL s ⟨#[58]⟩ = L at *
    match L, hl with
    | [p0, p1, p2, p3, p4, p5], _ =>
      have g0 : gp p0 = true := hg 0 (by omega)
      have g1 : gp p1 = true := hg 1 (by omega)
      have g2 : gp p2 = true := hg 2 (by omega)
      have g3 : gp p3 = true := hg 3 (by omega)
      have g4 : gp p4 = true := hg 4 (by omega)
      have g5 : gp p5 = true := hg 5 (by omega)
      obtain ⟨n0, m0, x0, y0, rfl⟩ := of_gp g0
      obtain ⟨n1, m1, x1, y1, rfl⟩ := of_gp g1
      obtain ⟨n2, m2, x2, y2, rfl⟩ := of_gp g2
      obtain ⟨n3, m3, x3, y3, rfl⟩ := of_gp g3
      obtain ⟨n4, m4, x4, y4, rfl⟩ := of_gp g4
      obtain ⟨n5, m5, x5, y5, rfl⟩ := of_gp g5
      have w0 := (gp_of x0 y0).2
      have w1 := (gp_of x1 y1).2
      have w2 := (gp_of x2 y2).2
      have w3 := (gp_of x3 y3).2
      have w4 := (gp_of x4 y4).2
      have w5 := (gp_of x5 y5).2
      let v : Nat := (((((n0 * 16 + m0) * 256 + (n1 * 16 + m1)) * 256 + (n2 * 16 + m2)) * 256 + (n3 * 16 + m3)) * 256 + (n4 * 16 + m4)) * 256 + (n5 * 16 + m5)
      have hv : v = (((((n0 * 16 + m0) * 256 + (n1 * 16 + m1)) * 256 + (n2 * 16 + m2)) * 256 + (n3 * 16 + m3)) * 256 + (n4 * 16 + m4)) * 256 + (n5 * 16 + m5) := rfl
      have r5 : b5 v = n0 * 16 + m0 := by unfold b5; omega
      have r4 : b4 v = n1 * 16 + m1 := by unfold b4; omega
      have r3 : b3 v = n2 * 16 + m2 := by unfold b3; omega
      have r2 : b2 v = n3 * 16 + m3 := by unfold b2; omega
      have r1 : b1 v = n4 * 16 + m4 := by unfold b1; omega
      have r0 : b0' v = n5 * 16 + m5 := by unfold b0'; omega
      refine .inr ⟨v, by omega, ?_, fun α k => ?_⟩
      · rw [← hj]
        unfold tl
        rw [r5, r4, r3, r2, r1, r0]
        rw [show (n0 * 16 + m0) / 16 = n0 by omega, show (n0 * 16 + m0) % 16 = m0 by omega, show (n1 * 16 + m1) / 16 = n1 by omega, show (n1 * 16 + m1) % 16 = m1 by omega, show (n2 * 16 + m2) / 16 = n2 by omega, show (n2 * 16 + m2) % 16 = m2 by omega, show (n3 * 16 + m3) / 16 = n3 by omega, show (n3 * 16 + m3) % 16 = m3 by omega, show (n4 * 16 + m4) / 16 = n4 by omega, show (n4 * 16 + m4) % 16 = m4 by omega, show (n5 * 16 + m5) / 16 = n5 by omega, show (n5 * 16 + m5) % 16 = m5 by omega]
        rfl
      · refine parse_six s hs _ _ _ _ _ _ hL g0 g1 g2 g3 g4 g5 v ?_ ?_ α k
        · rw [w0, w1, w2, w3, w4, w5, hv]
          omega
        · intro p hp
          simp only [List.mem_cons, List.not_mem_nil, or_false] at hp
          rcases hp with rfl | rfl | rfl | rfl | rfl | rfl
          · rw [w0]; omega
          · rw [w1]; omega
          · rw [w2]; omega
          · rw [w3]; omega
          · rw [w4]; omega
          · rw [w5]; omega
def res (c : Nat) (k : Nat) : Int := bif decide (0 ≤ Lib.indexByte D c.toUInt8) && decide (Lib.indexByte D c.toUInt8 < (k : Int)) then Lib.indexByte D c.toUInt8 else -1
def rstep : Bool := (List.range 256).all fun c => (List.range 16).all fun k => (bif (e28 (k : Int) == (c : Int)) then (k : Int) else res c k) == res c (k + 1)
theorem rstep_ok : rstep = true := by kernel_rfl
def rlast : Bool := (List.range 256).all fun c => res c 16 == Lib.indexByte D c.toUInt8 && res c 0 == -1
theorem rlast_ok : rlast = true := by kernel_rfl
theorem res_step (c : UInt8) (k : Nat) (hk : k < 16) : (bif (e28 (k : Int) == ((c.toNat : Nat) : Int)) then (k : Int) else res c.toNat k) = res c.toNat (k + 1) := by
  have := List.all_eq_true.1 (List.all_eq_true.1 rstep_ok c.toNat (List.mem_range.2 c.toNat_lt)) k (List.mem_range.2 hk)
  exact eq_of_beq this
theorem res_last (c : UInt8) : res c.toNat 16 = Lib.indexByte D c ∧ res c.toNat 0 = -1 := by
  have := List.all_eq_true.1 rlast_ok c.toNat (List.mem_range.2 c.toNat_lt)
  rw [show c.toNat.toUInt8 = c from UInt8.ofNat_toNat] at this
  simpa using this
theorem inner {α : Type} (k0 : ByteArray → Int → Int → Int → Option α) (s : ByteArray) (w : Int) (i : Nat) (c : UInt8) (hi : i < s.size) (hc : bt s (i : Int) = ((c.toNat : Nat) : Int)) : ∀ (r m k : Nat), k + r = 16 → r < m → ref09_Parse_L2_v1_l0 k0 m s w (i : Int) (res c.toNat k) (k : Int) = k0 s w (i : Int) (Lib.indexByte D c)
  | _, 0, _, _, hm => by omega
  | 0, m + 1, k, hk, hm => by
    obtain rfl : k = 16 := by omega
    show ref09_Parse_L2_v1_s0 (ref09_Parse_L2_v1_l0 k0 m) k0 s w (i : Int) _ ((16 : Nat) : Int) = _
    unfold ref09_Parse_L2_v1_s0
    rw [dec_f (show ¬ ((16 : Nat) : Int) < 16 by omega), cond_false, (res_last c).1]
  | r + 1, m + 1, k, hk, hm => by
    have ih := inner k0 s w i c hi hc r m (k + 1) (by omega) (by omega)
    show ref09_Parse_L2_v1_s0 (ref09_Parse_L2_v1_l0 k0 m) k0 s w (i : Int) _ (k : Int) = _
    unfold ref09_Parse_L2_v1_s0
    rw [dec_t (show (k : Int) < 16 by omega), inb_t (show (0 : Int) ≤ (k : Int) by omega) (show (k : Int) < ((16 : Nat) : Int) by omega), inb_t (show (0 : Int) ≤ (i : Int) by omega) (show (i : Int) < ((s.size : Nat) : Int) by omega), cond_true, cond_true, cond_true, hc, i64_id (by omega) (by omega)]
    have hs := res_step c k (by omega)
    rw [← hs] at ih
    rw [show ((k + 1 : Nat) : Int) = (k : Int) + 1 by omega] at ih
    cases hb : (e28 (k : Int) == ((c.toNat : Nat) : Int)) with
    | true => rw [hb, cond_true] at ih; exact ih
    | false => rw [hb, cond_false] at ih; exact ih
theorem outer_end {α : Type} (k0 : Option α) (k1 : ByteArray → Int → Option α) (m : Nat) (s : ByteArray) (w : Int) : ref09_Parse_L0_l0 k0 k1 (m + 1) s w ((17 : Nat) : Int) = k1 s w := by
  show ref09_Parse_L0_s0 ref09_Parse_L2_v1 (ref09_Parse_L0_l0 k0 k1 m) k0 k1 s w ((17 : Nat) : Int) = _
  unfold ref09_Parse_L0_s0
  rw [dec_f (show ¬ ((17 : Nat) : Int) < 17 by omega), cond_false]
theorem outer_skip {α : Type} (k0 : Option α) (k1 : ByteArray → Int → Option α) (m i : Nat) (s : ByteArray) (w : Int) (hi : i < 17) (h3 : i % 3 = 2) : ref09_Parse_L0_l0 k0 k1 (m + 1) s w (i : Int) = ref09_Parse_L0_l0 k0 k1 m s w ((i + 1 : Nat) : Int) := by
  show ref09_Parse_L0_s0 ref09_Parse_L2_v1 (ref09_Parse_L0_l0 k0 k1 m) k0 k1 s w (i : Int) = _
  unfold ref09_Parse_L0_s0
  rw [dec_t (show (i : Int) < 17 by omega), cond_true, show ((i : Int).tmod 3 == 2) = true by rw [Int.tmod_eq_emod_of_nonneg (by omega), beq_iff_eq]; omega, cond_true, i64_id (by omega) (by omega)]
  rfl
theorem outer_dig {α : Type} (k0 : Option α) (k1 : ByteArray → Int → Option α) (m i : Nat) (s : ByteArray) (w : Int) (hi : i < 17) (hs : s.size = 17) (h3 : i % 3 ≠ 2) (c : UInt8) (hc : bt s (i : Int) = ((c.toNat : Nat) : Int)) (h0 : 0 ≤ w) (h1 : w < 281474976710656) : ref09_Parse_L0_l0 k0 k1 (m + 1) s w (i : Int) = bif decide (Lib.indexByte D c < 0) then k0 else ref09_Parse_L0_l0 k0 k1 m s (w * 16 + Lib.indexByte D c) ((i + 1 : Nat) : Int) := by
  show ref09_Parse_L0_s0 ref09_Parse_L2_v1 (ref09_Parse_L0_l0 k0 k1 m) k0 k1 s w (i : Int) = _
  unfold ref09_Parse_L0_s0
  rw [dec_t (show (i : Int) < 17 by omega), cond_true, show ((i : Int).tmod 3 == 2) = false by rw [Int.tmod_eq_emod_of_nonneg (by omega), beq_eq_false_iff_ne]; omega, cond_false]
  unfold ref09_Parse_L2_v1
  have hin := fun (q : ByteArray → Int → Int → Int → Option α) => inner q s w i c (by omega) hc 16 18446744073709551616 0 (by omega) (by omega)
  rw [(res_last c).2] at hin
  refine (hin _).trans ?_
  by_cases hb : Lib.indexByte D c < 0
  · rw [dec_t hb]; rfl
  · obtain ⟨n, hn, e, _⟩ := dig_ok c (by omega)
    rw [dec_f hb, cond_false, cond_false, e, i64_id (by omega) (by omega), u64_id (n := w * 16) (by omega) (by omega), u64_id (n := (n : Int)) (by omega) (by omega), u64_id (by omega) (by omega)]
    rfl
theorem outer1 (s : ByteArray) (hs : s.size = 17) (hb : ∀ i : Nat, i < 17 → ∃ c : UInt8, bt s (i : Int) = ((c.toNat : Nat) : Int)) : ∀ (r m i w : Nat), i + r = 17 → r < m → w < 16 ^ (i - i / 3) → (∀ (α : Type) (k0 : Option α) k1, ref09_Parse_L0_l0 k0 k1 m s (w : Int) (i : Int) = k0) ∨ ∃ w' : Nat, w' < 281474976710656 ∧ ∀ (α : Type) (k0 : Option α) k1, ref09_Parse_L0_l0 k0 k1 m s (w : Int) (i : Int) = k1 s (w' : Int)
  | _, 0, _, _, _, hm, _ => by omega
  | 0, m + 1, i, w, hi, hm, hw => by
    obtain rfl : i = 17 := by omega
    exact .inr ⟨w, by simpa using hw, fun α k0 k1 => outer_end k0 k1 m s w⟩
  | r + 1, m + 1, i, w, hi, hm, hw => by
    by_cases h3 : i % 3 = 2
    · have ih := outer1 s hs hb r m (i + 1) w (by omega) (by omega) (by rw [show i + 1 - (i + 1) / 3 = i - i / 3 by omega]; exact hw)
      rcases ih with ih | ⟨w', h1, ih⟩
      · exact .inl fun α k0 k1 => by rw [outer_skip k0 k1 m i s w (by omega) h3, ih]
      · exact .inr ⟨w', h1, fun α k0 k1 => by rw [outer_skip k0 k1 m i s w (by omega) h3, ih]⟩
    · obtain ⟨c, hc⟩ := hb i (by omega)
      have hp : 16 ^ (i - i / 3) ≤ 16 ^ 12 := Nat.pow_le_pow_right (by omega) (by omega)
      rw [show (16 : Nat) ^ 12 = 281474976710656 by decide] at hp
      have hd := fun (α : Type) (k0 : Option α) k1 => outer_dig k0 k1 m i s w (by omega) hs h3 c hc (by omega) (by omega)
      by_cases hn : Lib.indexByte D c < 0
      · exact .inl fun α k0 k1 => by rw [hd, dec_t hn, cond_true]
      · obtain ⟨n, hn1, e, _⟩ := dig_ok c (by omega)
        have hw2 : w * 16 + n < 16 ^ (i + 1 - (i + 1) / 3) := by
          rw [show i + 1 - (i + 1) / 3 = (i - i / 3) + 1 by omega, Nat.pow_succ]
          omega
        have ih := outer1 s hs hb r m (i + 1) (w * 16 + n) (by omega) (by omega) hw2
        rw [show ((w * 16 + n : Nat) : Int) = (w : Int) * 16 + (n : Int) by omega] at ih
        rcases ih with ih | ⟨w', h1, ih⟩
        · exact .inl fun α k0 k1 => by rw [hd, dec_f hn, cond_false, e, ih]
        · exact .inr ⟨w', h1, fun α k0 k1 => by rw [hd, dec_f hn, cond_false, e, ih]⟩
def hz (n : Nat → Nat) : Nat → Nat → Nat → Nat
  | _, w, 0 => w
  | i, w, r + 1 => bif Nat.beq (i % 3) 2 then hz n (i + 1) w r else hz n (i + 1) (w * 16 + n i) r
theorem outer2 (s : ByteArray) (hs : s.size = 17) (n : Nat → Nat) (hb : ∀ i : Nat, i < 17 → i % 3 ≠ 2 → n i < 16 ∧ bt s (i : Int) = (((H (n i)).toNat : Nat) : Int)) : ∀ (r m i w : Nat), i + r = 17 → r < m → w < 16 ^ (i - i / 3) → ∀ (α : Type) (k0 : Option α) k1, ref09_Parse_L0_l0 k0 k1 m s (w : Int) (i : Int) = k1 s ((hz n i w r : Nat) : Int)
  | _, 0, _, _, _, hm, _ => by omega
  | 0, m + 1, i, w, hi, hm, hw => by
    obtain rfl : i = 17 := by omega
    exact fun α k0 k1 => outer_end k0 k1 m s w
  | r + 1, m + 1, i, w, hi, hm, hw => by
    intro α k0 k1
    by_cases h3 : i % 3 = 2
    · have ih := outer2 s hs n hb r m (i + 1) w (by omega) (by omega) (by rw [show i + 1 - (i + 1) / 3 = i - i / 3 by omega]; exact hw) α k0 k1
      rw [outer_skip k0 k1 m i s w (by omega) h3, ih, hz, h3]
      rfl
    · obtain ⟨hn1, hc⟩ := hb i (by omega) h3
      have hp : 16 ^ (i - i / 3) ≤ 16 ^ 12 := Nat.pow_le_pow_right (by omega) (by omega)
      rw [show (16 : Nat) ^ 12 = 281474976710656 by decide] at hp
      have e := (undig_ok (n i) hn1).1
      have hw2 : w * 16 + n i < 16 ^ (i + 1 - (i + 1) / 3) := by
        rw [show i + 1 - (i + 1) / 3 = (i - i / 3) + 1 by omega, Nat.pow_succ]
        omega
      have ih := outer2 s hs n hb r m (i + 1) (w * 16 + n i) (by omega) (by omega) hw2 α k0 k1
      rw [show ((w * 16 + n i : Nat) : Int) = (w : Int) * 16 + (n i : Int) by omega] at ih
      rw [outer_dig k0 k1 m i s w (by omega) hs h3 _ hc (by omega) (by omega), e, dec_f (show ¬ (n i : Int) < 0 by omega), cond_false, ih, hz, show Nat.beq (i % 3) 2 = false by
        cases hq : Nat.beq (i % 3) 2 with
        | false => rfl
        | true => exact absurd (Nat.eq_of_beq_eq_true hq) h3, cond_false]
def nv (v : Nat) : Nat → Nat
  | 0 => b5 v / 16 | 1 => b5 v % 16 | 3 => b4 v / 16 | 4 => b4 v % 16 | 6 => b3 v / 16 | 7 => b3 v % 16 | 9 => b2 v / 16 | 10 => b2 v % 16 | 12 => b1 v / 16 | 13 => b1 v % 16 | 15 => b0' v / 16 | _ => b0' v % 16
theorem hz_nv (v : Nat) (hv : v < 281474976710656) : hz (nv v) 0 0 17 = v := by
  have e : hz (nv v) 0 0 17 = (((((((((((0 * 16 + b5 v / 16) * 16 + b5 v % 16) * 16 + b4 v / 16) * 16 + b4 v % 16) * 16 + b3 v / 16) * 16 + b3 v % 16) * 16 + b2 v / 16) * 16 + b2 v % 16) * 16 + b1 v / 16) * 16 + b1 v % 16) * 16 + b0' v / 16) * 16 + b0' v % 16 := by kernel_rfl
  rw [e]
  unfold b5 b4 b3 b2 b1 b0'
  omega
theorem and_hi (x : Nat) (hx : x < 18446744073709551616) : x &&& 18446744073709551600 = x / 16 * 16 := by
  apply Nat.eq_of_testBit_eq
  intro i
  rw [Nat.testBit_and, show (18446744073709551600 : Nat) = 2 ^ 4 * (2 ^ 60 - 1) by decide, Nat.testBit_two_pow_mul, Nat.testBit_two_pow_sub_one, show x / 16 * 16 = 2 ^ 4 * (x / 2 ^ 4) by omega, Nat.testBit_two_pow_mul, Nat.testBit_div_two_pow]
  by_cases h : i ≥ 4
  · rw [show i - 4 + 4 = i by omega]
    by_cases h2 : i - 4 < 60
    · simp [h, h2]
    · have : x.testBit i = false := Nat.testBit_lt_two_pow (Nat.lt_of_lt_of_le hx (by rw [show (18446744073709551616 : Nat) = 2 ^ 64 by decide]; exact Nat.pow_le_pow_right (by omega) (by omega)))
      simp [this]
  · simp [h]
theorem andNot15 (x : Nat) (hx : x < 18446744073709551616) : bits .andNot .u64 (x : Int) 15 = ((x / 16 * 16 : Nat) : Int) := by
  show IntKind.u64.wrap ((BitVec.ofInt 64 (x : Int) &&& ~~~BitVec.ofInt 64 15).toNat : Int) = _
  have h1 : (BitVec.ofInt 64 15).toNat = 15 := by decide
  have h2 : (BitVec.ofInt 64 (x : Int)).toNat = x := by
    rw [BitVec.ofInt_natCast, BitVec.toNat_ofNat]; exact Nat.mod_eq_of_lt (by omega)
  rw [BitVec.toNat_and, BitVec.toNat_not, h2, h1, show 2 ^ 64 - 1 - 15 = 18446744073709551600 by decide, and_hi x hx]
  exact u64_id (by omega) (by omega)
theorem ref_parse_text (v : Nat) (hv : v < 281474976710656) (α : Type) (k : Int → Int → Option α) : ref09_Parse ⟨(tl v).toArray⟩ k = k (v : Int) 0 := by
  have h := outer2 ⟨(tl v).toArray⟩ rfl (nv v) (fun i hi h3 => by
    match i, hi, h3 with
    | 0, _, _ => exact ⟨by show b5 v / 16 < 16; unfold b5; omega, rfl⟩
    | 1, _, _ => exact ⟨by show b5 v % 16 < 16; unfold b5; omega, rfl⟩
    | 3, _, _ => exact ⟨by show b4 v / 16 < 16; unfold b4; omega, rfl⟩
    | 4, _, _ => exact ⟨by show b4 v % 16 < 16; unfold b4; omega, rfl⟩
    | 6, _, _ => exact ⟨by show b3 v / 16 < 16; unfold b3; omega, rfl⟩
    | 7, _, _ => exact ⟨by show b3 v % 16 < 16; unfold b3; omega, rfl⟩
    | 9, _, _ => exact ⟨by show b2 v / 16 < 16; unfold b2; omega, rfl⟩
    | 10, _, _ => exact ⟨by show b2 v % 16 < 16; unfold b2; omega, rfl⟩
    | 12, _, _ => exact ⟨by show b1 v / 16 < 16; unfold b1; omega, rfl⟩
    | 13, _, _ => exact ⟨by show b1 v % 16 < 16; unfold b1; omega, rfl⟩
    | 15, _, _ => exact ⟨by show b0' v / 16 < 16; unfold b0'; omega, rfl⟩
    | 16, _, _ => exact ⟨by show b0' v % 16 < 16; unfold b0'; omega, rfl⟩
    | 2, _, h3 => exact absurd rfl h3
    | 5, _, h3 => exact absurd rfl h3
    | 8, _, h3 => exact absurd rfl h3
    | 11, _, h3 => exact absurd rfl h3
    | 14, _, h3 => exact absurd rfl h3
    | n + 17, h, _ => exact absurd h (by omega)) 17 18446744073709551616 0 0 (by omega) (by omega) (by omega) α
  rw [hz_nv v hv] at h
  unfold ref09_Parse ref09_Parse_T
  rw [show (((⟨(tl v).toArray⟩ : ByteArray).size : Int) != 17) = false from rfl, cond_false]
  refine (h _ _).trans ?_
  rw [ref_text v hv, beq_self_eq_true]
  rfl
theorem ref_parse_cases (s : ByteArray) : (∀ (α : Type) (k : Int → Int → Option α), ref09_Parse s k = k 0 11) ∨ ∃ v : Nat, v < 281474976710656 ∧ s.data.toList = tl v := by
  by_cases hs : s.size = 17
  rotate_left
  · refine .inl fun α k => ?_
    unfold ref09_Parse ref09_Parse_T
    rw [show ((s.size : Int) != 17) = true from bne_iff_ne.2 (by omega), cond_true]
  have ho : ∀ (α : Type) (k : Int → Int → Option α), ref09_Parse s k = ref09_Parse_L0_l0 (k 0 11) (fun r_2 r_3 => ref09_Text r_3 (fun r_4 => bif !(r_4.toList == r_2.toList) then k 0 11 else k r_3 0)) 18446744073709551616 s ((0 : Nat) : Int) ((0 : Nat) : Int) := by
    intro α k
    unfold ref09_Parse ref09_Parse_T
    rw [show ((s.size : Int) != 17) = false by rw [hs]; rfl, cond_false]
    rfl
  rcases outer1 s hs (fun i hi => by
    unfold bt
    rw [dif_pos (show (i : Int).toNat < s.size by rw [Int.toNat_natCast]; omega)]
    exact ⟨_, rfl⟩) 17 18446744073709551616 0 0 (by omega) (by omega) (by omega) with h | ⟨w, hw, h⟩
  · exact .inl fun α k => by rw [ho, h]
  · by_cases he : s.data.toList = tl w
    · exact .inr ⟨w, hw, he⟩
    · refine .inl fun α k => ?_
      rw [ho, h, ref_text w hw, Lib.toList_data, Lib.toList_data, show ((⟨(tl w).toArray⟩ : ByteArray).data.toList == s.data.toList) = false from beq_eq_false_iff_ne.2 fun e => he e.symm]
      rfl
theorem parse_eq (s : ByteArray) (hs : s.size ≤ 200) : ∃ v e : Int, (∀ (α : Type) (k : Int → Int → Option α), mac_Parse s k = k v e) ∧ ∀ (α : Type) (k : Int → Int → Option α), ref09_Parse s k = k v e := by
  by_cases h : ∃ v : Nat, v < 281474976710656 ∧ s.data.toList = tl v
  · obtain ⟨v, hv, e⟩ := h
    obtain rfl := ba_ext e
    exact ⟨v, 0, fun α k => parse_text v hv α k, fun α k => ref_parse_text v hv α k⟩
  · refine ⟨0, 11, ?_, ?_⟩
    · rcases parse_cases s hs with h1 | ⟨v, hv, e, _⟩
      · exact h1
      · exact absurd ⟨v, hv, e⟩ h
    · rcases ref_parse_cases s with h1 | ⟨v, hv, e⟩
      · exact h1
      · exact absurd ⟨v, hv, e⟩ h
structure C8 where
  what : Int
  kind : Int
  port : Int
  num : Int
  vlan : Int
  memb : Int
  tagd : Int
  mac : Int
def TB (n : Nat) (f : Nat → Nat → PV) (L : List ByteArray) : Prop := L.length = n ∧ ∀ j (h : j < L.length), textOf (f j 0) = L[j]
def w2b (l : List UInt8) : ByteArray := ⟨l.toArray⟩
theorem TB.of {n : Nat} {f : Nat → Nat → PV} {L : List (List UInt8)} (h : TL n f L) : TB n f (L.map w2b) := by
  refine ⟨by simp [h.1], fun j hj => ?_⟩
  have hj' : j < L.length := by simpa using hj
  apply bl_inj
  rw [h.2 j hj', List.getElem_map]
  rfl
theorem TB.row (n : Nat) (f : Nat → Nat → PV) : TB n f (Ve.rowL n f) := ⟨by simp [Ve.rowL], fun j h => by simp [Ve.rowL]⟩
def NB (n : Nat) (f : Nat → Nat → PV) (L : List Int) : Prop := L.length = n ∧ ∀ j (h : j < L.length), numOf (f j 0) = L[j]
theorem NB.nil (f : Nat → Nat → PV) : NB 0 f [] := ⟨rfl, fun j h => absurd h (Nat.not_lt_zero j)⟩
theorem NB.snoc {n : Nat} {f : Nat → Nat → PV} {L : List Int} (h : NB n f L) (b : Int) : NB (n + 1) (catf n f (rowOf 1 [.val (.int .i64 b)])) (L ++ [b]) := by
  refine ⟨by simp [h.1], fun j hj => ?_⟩
  simp only [List.length_append, List.length_singleton] at hj
  have hn := h.1
  by_cases hl : j < L.length
  · rw [List.getElem_append_left hl]
    have : Nat.blt j n = true := Nat.ble_eq_true_of_le (by omega)
    show numOf (bif Nat.blt j n then f j 0 else _) = _
    rw [this, cond_true]
    exact h.2 j hl
  · obtain rfl : j = L.length := by omega
    have hb : Nat.blt L.length n = false := by
      cases hh : Nat.blt L.length n with
      | false => rfl
      | true => have := Nat.le_of_ble_eq_true hh; omega
    rw [List.getElem_append_right (Nat.le_refl _)]
    show numOf (bif Nat.blt L.length n then f L.length 0 else rowOf 1 [.val (.int .i64 b)] (L.length - n) 0) = _
    rw [hb, cond_false, show L.length - n = 0 by omega]
    simp
    rfl
def macP (s : ByteArray) : Int × Int := (mac_Parse s (fun v e => some (v, e))).getD (0, 0)
theorem macP_ok (s : ByteArray) (hs : s.size ≤ 200) : (∀ (α : Type) (k : Int → Int → Option α), mac_Parse s k = k (macP s).1 (macP s).2) ∧ ∀ (α : Type) (k : Int → Int → Option α), ref09_Parse s k = k (macP s).1 (macP s).2 := by
  obtain ⟨v, e, h1, h2⟩ := parse_eq s hs
  have hm : macP s = (v, e) := by unfold macP; rw [h1]; rfl
  rw [hm]
  exact ⟨h1, h2⟩
def rd (a w : ByteArray) (c : C8) : Option C8 :=
  bif a.data.toList == [78] then bif numOk w then some { c with num := numI w } else none
  else bif a.data.toList == [80] then bif numOk w && decide (numI w ≤ 255) then some { c with port := numI w } else none
  else bif a.data.toList == [86] then bif numOk w && decide (numI w ≤ 65535) then some { c with vlan := numI w } else none
  else bif a.data.toList == [77] then bif numOk w && decide (numI w ≤ 255) then some { c with memb := IntKind.u8.wrap (numI w) } else none
  else bif a.data.toList == [84] then bif numOk w && decide (numI w ≤ 255) then some { c with tagd := IntKind.u8.wrap (numI w) } else none
  else bif a.data.toList == [65] then bif (macP w).2 == 0 then some { c with mac := (macP w).1 } else none
  else bif w.data.toList == a.data.toList then some c else none
theorem small (w : ByteArray) (hw : w.size ≤ 200) (α : Type) (k0 : Int → Bool → Option α) (k1 : Int → Option α) : parse_small w k0 k1 = bif numOk w then k0 (numI w) (decide (numI w ≤ 255)) else k1 (numI w) := by
  unfold parse_small parse_small_T
  rw [ble_true (by omega), cond_true]
theorem small1 (w : ByteArray) (hw : w.size ≤ 200) (α : Type) (k0 : Int → Bool → Option α) (k1 : Int → Option α) : parse_small_v1 w k0 k1 = bif numOk w then k0 (numI w) (decide (numI w ≤ 65535)) else k1 (numI w) := by
  unfold parse_small_v1 parse_small_v1_T
  rw [ble_true (by omega), cond_true]
theorem read_eq (a w : ByteArray) (c : C8) (hw : w.size ≤ 200) : ∃ (b : Bool) (c' : C8), rd a w c = (bif b then some c' else none) ∧ ∀ (α : Type) (k0 : Bool → Int → Int → Int → Int → Int → Int → Int → Int → Option α), parse_Cmd_read a w c.what c.kind c.port c.num c.vlan c.memb c.tagd c.mac k0 = k0 b c'.what c'.kind c'.port c'.num c'.vlan c'.memb c'.tagd c'.mac := by
  unfold rd
  cases hN : a.data.toList == [78] with
  | true =>
    refine ⟨numOk w, { c with num := numI w }, rfl, fun α k0 => ?_⟩
    unfold parse_Cmd_read parse_Cmd_read_T
    rw [beq_bl]; show (bif (a.data.toList == [78]) then _ else _) = _
    rw [hN, cond_true, ble_true (by omega), cond_true]
  | false =>
  rw [cond_false]
  cases hP : a.data.toList == [80] with
  | true =>
    refine ⟨numOk w && decide (numI w ≤ 255), { c with port := numI w }, rfl, fun α k0 => ?_⟩
    unfold parse_Cmd_read parse_Cmd_read_T
    simp only [beq_bl, hN, hP, cond_false, cond_true]
    rw [small w hw]
    cases numOk w <;> rfl
  | false =>
  rw [cond_false]
  cases hV : a.data.toList == [86] with
  | true =>
    refine ⟨numOk w && decide (numI w ≤ 65535), { c with vlan := numI w }, rfl, fun α k0 => ?_⟩
    unfold parse_Cmd_read parse_Cmd_read_T
    simp only [beq_bl, hN, hP, hV, cond_false, cond_true]
    rw [small1 w hw]
    cases numOk w <;> rfl
  | false =>
  rw [cond_false]
  cases hM : a.data.toList == [77] with
  | true =>
    refine ⟨numOk w && decide (numI w ≤ 255), { c with memb := IntKind.u8.wrap (numI w) }, rfl, fun α k0 => ?_⟩
    unfold parse_Cmd_read parse_Cmd_read_T
    simp only [beq_bl, hN, hP, hV, hM, cond_false, cond_true]
    rw [small w hw]
    cases numOk w <;> rfl
  | false =>
  rw [cond_false]
  cases hT : a.data.toList == [84] with
  | true =>
    refine ⟨numOk w && decide (numI w ≤ 255), { c with tagd := IntKind.u8.wrap (numI w) }, rfl, fun α k0 => ?_⟩
    unfold parse_Cmd_read parse_Cmd_read_T
    simp only [beq_bl, hN, hP, hV, hM, hT, cond_false, cond_true]
    rw [small w hw]
    cases numOk w <;> rfl
  | false =>
  rw [cond_false]
  cases hA : a.data.toList == [65] with
  | true =>
    refine ⟨(macP w).2 == 0, { c with mac := (macP w).1 }, rfl, fun α k0 => ?_⟩
    unfold parse_Cmd_read parse_Cmd_read_T
    simp only [beq_bl, hN, hP, hV, hM, hT, hA, cond_false, cond_true]
    rw [(macP_ok w hw).1]
  | false =>
    rw [cond_false]
    refine ⟨w.data.toList == a.data.toList, c, rfl, fun α k0 => ?_⟩
    unfold parse_Cmd_read parse_Cmd_read_T
    simp only [beq_bl, hN, hP, hV, hM, hT, hA, cond_false, cond_true]
def takeF : List ByteArray → List ByteArray → C8 → Option C8
  | a :: V, w :: W, c => match rd a w c with
    | some c' => takeF V W c'
    | none => none
  | _, _, c => some c
def kC {α : Type} (k : Int → Int → Int → Int → Int → Int → Int → Int → Option α) (c : C8) : Option α := k c.what c.kind c.port c.num c.vlan c.memb c.tagd c.mac
theorem take_loop {n : Nat} {f g : Nat → Nat → PV} {V W : List ByteArray} (hV : TB n g V) (hW : TB n f W) (hn : n ≤ 1000) (hs : ∀ w ∈ W, w.size ≤ 200) (nl nl2 : Bool) (α : Type) (k0 : Bool → Nat → (Nat → Nat → PV) → Option α) (k1 : Bool → Nat → (Nat → Nat → PV) → Int → Int → Int → Int → Int → Int → Int → Int → Option α) : ∀ (d i fuel : Nat) (c : C8), i + d = n → d < fuel →
    parse_form_take_L0_l0 k0 k1 fuel (n : Int) (i : Int) nl n f nl2 n g c.what c.kind c.port c.num c.vlan c.memb c.tagd c.mac = match takeF (V.drop i) (W.drop i) c with
      | none => k0 nl n f
      | some c' => k1 nl n f c'.what c'.kind c'.port c'.num c'.vlan c'.memb c'.tagd c'.mac
 := by
  intro d
  induction d with
  | zero =>
    intro i fuel c hi hf
    obtain ⟨fuel, rfl⟩ : ∃ m, fuel = m + 1 := ⟨fuel - 1, by omega⟩
    obtain rfl : i = n := by omega
    rw [List.drop_eq_nil_of_le (by rw [hV.1]; exact Nat.le_refl _), List.drop_eq_nil_of_le (by rw [hW.1]; exact Nat.le_refl _)]
    show parse_form_take_L0_s0 _ _ k0 k1 (i : Int) (i : Int) nl i f nl2 i g c.what c.kind c.port c.num c.vlan c.memb c.tagd c.mac = k1 nl i f c.what c.kind c.port c.num c.vlan c.memb c.tagd c.mac
    unfold parse_form_take_L0_s0
    rw [dec_f (Int.lt_irrefl _), cond_false]
  | succ d ih =>
    intro i fuel c hi hf
    obtain ⟨fuel, rfl⟩ : ∃ m, fuel = m + 1 := ⟨fuel - 1, by omega⟩
    have h1 : i < V.length := by rw [hV.1]; omega
    have h2 : i < W.length := by rw [hW.1]; omega
    rw [List.drop_eq_getElem_cons h1, List.drop_eq_getElem_cons h2]
    obtain ⟨b, c', q1, q2⟩ := read_eq V[i] W[i] c (hs _ (List.getElem_mem h2))
    show parse_form_take_L0_s0 _ _ k0 k1 (n : Int) (i : Int) nl n f nl2 n g c.what c.kind c.port c.num c.vlan c.memb c.tagd c.mac = _
    unfold parse_form_take_L0_s0
    rw [dec_t (show (i : Int) < (n : Int) by omega), inb_t (show (0 : Int) ≤ (i : Int) by omega) (show (i : Int) < (n : Int) by omega), cond_true, cond_true, cond_true, Int.toNat_natCast, hV.2 i h1, hW.2 i h2, q2]
    unfold takeF
    rw [q1]
    cases b with
    | false => rfl
    | true =>
      have := ih (i + 1) fuel c' (by omega) (by omega)
      show parse_form_take_L0_l0 k0 k1 fuel (n : Int) (IntKind.i64.wrap ((i : Int) + 1)) nl n f nl2 n g c'.what c'.kind c'.port c'.num c'.vlan c'.memb c'.tagd c'.mac = _
      rw [i64_id (by omega) (by omega)]
      exact this
def Vs (i : Nat) : List ByteArray := (words (textOf (e1 i 8)).data.toList).map w2b
def ci (i : Nat) : C8 := ⟨numOf (e1 i 0), numOf (e1 i 1), numOf (e1 i 2), numOf (e1 i 3), numOf (e1 i 4), numOf (e1 i 5), numOf (e1 i 6), numOf (e1 i 7)⟩
def tk (i : Nat) (W : List ByteArray) : Option C8 := bif (Vs i).length == W.length then takeF (Vs i) W (ci i) else none
theorem short (i : Nat) (h : i < 16) : (textOf (e1 i 8)).size ≤ 100 := by
  have : (List.range 16).all (fun i => Nat.ble (textOf (e1 i 8)).size 100) = true := by kernel_rfl
  have := List.all_eq_true.1 this i (List.mem_range.2 h)
  exact Nat.le_of_ble_eq_true this
theorem take_eq {n : Nat} {f : Nat → Nat → PV} {W : List ByteArray} (hW : TB n f W) (hn : n ≤ 1000) (hs : ∀ w ∈ W, w.size ≤ 200) (nl : Bool) (i : Nat) (hi : i < 16) (α : Type) (k0 : Bool → Nat → (Nat → Nat → PV) → Option α) (k1 : Int → Int → Int → Int → Int → Int → Int → Int → Bool → Nat → (Nat → Nat → PV) → Option α) :
    parse_form_take (ci i).what (ci i).kind (ci i).port (ci i).num (ci i).vlan (ci i).memb (ci i).tagd (ci i).mac (textOf (e1 i 8)) nl n f k0 k1 = match tk i W with
      | none => k0 nl n f
      | some c => k1 c.what c.kind c.port c.num c.vlan c.memb c.tagd c.mac nl n f := by
  have hsz := short i hi
  obtain ⟨nl2, m, g, h1, h2⟩ := cutP (textOf (e1 i 8)) (by omega) (fun _ _ => .val undef)
  have hV : TB m g (Vs i) := TB.of h1
  unfold parse_form_take parse_form_take_T
  rw [splitOk_of (by omega), cond_true, h2]
  unfold tk
  by_cases hm : m = n
  · subst hm
    have e : ((m : Int) != (m : Int)) = false := by simp
    rw [e, cond_false, show ((Vs i).length == W.length) = true by rw [hV.1, hW.1]; exact beq_self_eq_true m, cond_true]
    unfold parse_form_take_L0
    have := take_loop hV hW hn hs nl nl2 α (fun r_16 r_17 r_18 => k0 r_16 r_17 r_18) (fun r_16 r_17 r_18 r_19 r_20 r_21 r_22 r_23 r_24 r_25 r_26 => k1 r_19 r_20 r_21 r_22 r_23 r_24 r_25 r_26 r_16 r_17 r_18) m 0 18446744073709551616 (ci i) (by omega) (by omega)
    rw [List.drop_zero, List.drop_zero] at this
    exact this
  · have e : ((m : Int) != (n : Int)) = true := by simp; omega
    rw [e, cond_true, show ((Vs i).length == W.length) = false by rw [hV.1, hW.1]; exact beq_false_of_ne hm, cond_false]
def first (F : Nat → Option C8) : Nat → Nat → Option C8
  | _, 0 => none
  | i, d + 1 => match F i with
    | some c => some c
    | none => first F (i + 1) d
theorem first_congr {F G : Nat → Option C8} : ∀ (d i : Nat), (∀ j, i ≤ j → j < i + d → F j = G j) → first F i d = first G i d
  | 0, i, h => rfl
  | d + 1, i, h => by
    unfold first
    rw [h i (Nat.le_refl _) (by omega), first_congr d (i + 1) (fun j h1 h2 => h j (by omega) (by omega))]
theorem lineP_loop {n : Nat} {f : Nat → Nat → PV} {W : List ByteArray} (hW : TB n f W) (hn : n ≤ 1000) (hs : ∀ w ∈ W, w.size ≤ 200) (nl : Bool) (α : Type) (k0 : Int → Int → Int → Int → Int → Int → Int → Int → Option α) (k1 : Option α) : ∀ (d i fuel : Nat), i + d = 16 → d < fuel →
    parse_Line_L0_l0 k0 k1 fuel (i : Int) nl n f e1 = match first (fun j => tk j W) i d with
      | none => k1
      | some c => kC k0 c
  | 0, i, fuel + 1, hi, hf => by
    obtain rfl : i = 16 := by omega
    show parse_Line_L0_s0 _ _ k0 k1 ((16 : Nat) : Int) nl n f e1 = k1
    unfold parse_Line_L0_s0
    rw [dec_f (by omega), cond_false]
  | d + 1, i, fuel + 1, hi, hf => by
    show parse_Line_L0_s0 _ _ k0 k1 (i : Int) nl n f e1 = _
    unfold parse_Line_L0_s0
    rw [dec_t (show (i : Int) < 16 by omega), inb_t (show (0 : Int) ≤ (i : Int) by omega) (show (i : Int) < ((16 : Nat) : Int) by omega), cond_true, cond_true, Int.toNat_natCast]
    have h := take_eq hW hn hs nl i (by omega) α (fun r_6 r_7 r_8 => parse_Line_L0_l0 k0 k1 fuel (IntKind.i64.wrap ((i : Int) + 1)) r_6 r_7 r_8 e1) (fun r_6 r_7 r_8 r_9 r_10 r_11 r_12 r_13 r_14 r_15 r_16 => k0 r_6 r_7 r_8 r_9 r_10 r_11 r_12 r_13)
    refine h.trans ?_
    unfold first
    cases tk i W with
    | some c => rfl
    | none =>
      dsimp only
      rw [i64_id (by omega) (by omega)]
      exact lineP_loop hW hn hs nl α k0 k1 d (i + 1) fuel (by omega) (by omega)
def WB (s : ByteArray) : List ByteArray := (words s.data.toList).map w2b
def find (W : List ByteArray) : Option C8 := first (fun j => tk j W) 0 16
theorem bulk_mem {w : List UInt8} : ∀ {L : List (List UInt8)}, w ∈ L → w.length + 1 ≤ bulk L
  | x :: L, h => by
    unfold bulk
    rcases List.mem_cons.1 h with rfl | h
    · omega
    · have := bulk_mem h; omega
theorem WB_small {s : ByteArray} (hs : s.size ≤ 200) : (WB s).length ≤ 1000 ∧ ∀ w ∈ WB s, w.size ≤ 200 := by
  have h := words_bulk s.data.toList
  have hl := bulk_len (words s.data.toList)
  rw [bl_size] at h
  refine ⟨by unfold WB; rw [List.length_map]; omega, fun w hw => ?_⟩
  obtain ⟨l, h1, rfl⟩ := List.mem_map.1 hw
  have := bulk_mem h1
  show l.toArray.size ≤ 200
  simp
  omega
theorem lineP (s : ByteArray) (hs : s.size ≤ 200) (α : Type) (k0 : Option α) (k1 : Int → Int → Int → Int → Int → Int → Int → Int → Option α) (k2 : Option α) : parse_Line s k0 k1 k2 = match find (WB s) with
      | none => k2
      | some c => kC k1 c := by
  obtain ⟨nl, n, f, h1, h2⟩ := cutP s (by omega) (fun _ _ => .val undef)
  obtain ⟨w1, w2⟩ := WB_small hs
  have hW : TB n f (WB s) := TB.of h1
  unfold parse_Line parse_Line_T
  rw [dec_f (show ¬ (s.size : Int) > 200 by omega), cond_false, splitOk_of (by omega), cond_true, h2]
  exact lineP_loop hW (by rw [← hW.1]; exact w1) w2 nl α (fun r_5 r_6 r_7 r_8 r_9 r_10 r_11 r_12 => k1 r_5 r_6 r_7 r_8 r_9 r_10 r_11 r_12) k2 16 0 18446744073709551616 (by omega) (by omega)
theorem lineP_long (s : ByteArray) (hs : 200 < s.size) (α : Type) (k0 : Option α) (k1 : Int → Int → Int → Int → Int → Int → Int → Int → Option α) (k2 : Option α) : parse_Line s k0 k1 k2 = k0 := by
  unfold parse_Line parse_Line_T
  rw [dec_t (show (s.size : Int) > 200 by omega), cond_true]
def Sh (i : Nat) : List ByteArray := Ve.rowL (lenOf (e24 i 0)) (fnOf (e24 i 0))
def col : List ByteArray → List ByteArray → Int → Bool → List Int → Int × Bool × List Int
  | a :: V, w :: W, m, ok, ns =>
    bif a.data.toList == [35] then col V W m (ok && numOk w) (ns ++ [numI w])
    else bif a.data.toList == [64] then col V W (macP w).1 (ok && ((macP w).2 == 0)) ns
    else col V W m (ok && (w.data.toList == a.data.toList)) ns
  | _, _, m, ok, ns => (m, ok, ns)
def cnt : List ByteArray → Nat
  | [] => 0
  | a :: V => (bif a.data.toList == [35] then 1 else 0) + cnt V
theorem col_len : ∀ (V W : List ByteArray) (m : Int) (ok : Bool) (ns : List Int), V.length = W.length → (col V W m ok ns).2.2.length = ns.length + cnt V
  | [], [], m, ok, ns, h => rfl
  | a :: V, w :: W, m, ok, ns, h => by
    have h' : V.length = W.length := by simpa using h
    unfold col cnt
    cases a.data.toList == [35] with
    | true => rw [cond_true, cond_true, col_len V W _ _ _ h', List.length_append, List.length_singleton]; omega
    | false =>
      rw [cond_false, cond_false]
      cases a.data.toList == [64] with
      | true => rw [cond_true, col_len V W _ _ _ h']; omega
      | false => rw [cond_false, col_len V W _ _ _ h']; omega
theorem bnd8 {n : Nat} (h : n ≤ 1000000) : Nat.ble ((n + 1) * 8) bound = true := ble_true (by unfold bound; omega)
theorem col_loop {n i : Nat} {f : Nat → Nat → PV} {W : List ByteArray} (hi : i < 16) (hW : TB n f W) (hl : lenOf (e24 i 0) = n) (hn : n ≤ 1000) (hs : ∀ w ∈ W, w.size ≤ 200) (nl : Bool) : ∀ (d j fuel : Nat) (m : Int) (ok : Bool) (nl2 : Bool) (n2 : Nat) (g : Nat → Nat → PV) (ns : List Int), j + d = n → NB n2 g ns → n2 ≤ j → d < fuel →
    ∃ nl' n' g', NB n' g' (col ((Sh i).drop j) (W.drop j) m ok ns).2.2 ∧ ∀ (α : Type) (k0 : Int → Int → Bool → Bool → Nat → (Nat → Nat → PV) → (Nat → Nat → PV) → Bool → Nat → (Nat → Nat → PV) → Option α), ref22_Line_L2_v1_l0 k0 fuel (i : Int) m ok (j : Int) nl n f e24 nl2 n2 g = k0 (i : Int) (col ((Sh i).drop j) (W.drop j) m ok ns).1 (col ((Sh i).drop j) (W.drop j) m ok ns).2.1 nl n f e24 nl' n' g'
  | 0, j, fuel + 1, m, ok, nl2, n2, g, ns, hj, hg, h2, hf => by
    obtain rfl : j = n := by omega
    rw [List.drop_eq_nil_of_le (by unfold Sh; simp [Ve.rowL, hl]), List.drop_eq_nil_of_le (by rw [hW.1]; exact Nat.le_refl _)]
    refine ⟨nl2, n2, g, hg, fun α k0 => ?_⟩
    show ref22_Line_L2_v1_s0 _ _ _ k0 (i : Int) m ok (j : Int) nl j f e24 nl2 n2 g = k0 (i : Int) m ok nl j f e24 nl2 n2 g
    unfold ref22_Line_L2_v1_s0
    rw [dec_f (Int.lt_irrefl _), cond_false]
  | d + 1, j, fuel + 1, m, ok, nl2, n2, g, ns, hj, hg, h2, hf => by
    have hS : TB (lenOf (e24 i 0)) (fnOf (e24 i 0)) (Sh i) := TB.row _ _
    have j1 : j < (Sh i).length := by rw [hS.1, hl]; omega
    have j2 : j < W.length := by rw [hW.1]; omega
    have hw := hs _ (List.getElem_mem j2)
    rw [List.drop_eq_getElem_cons j1, List.drop_eq_getElem_cons j2]
    have step : ∀ (α : Type) (k0 : Int → Int → Bool → Bool → Nat → (Nat → Nat → PV) → (Nat → Nat → PV) → Bool → Nat → (Nat → Nat → PV) → Option α), ref22_Line_L2_v1_l0 k0 (fuel + 1) (i : Int) m ok (j : Int) nl n f e24 nl2 n2 g =
        bif (Sh i)[j].data.toList == [35] then ref22_Line_L2_v1_l0 k0 fuel (i : Int) m (ok && numOk W[j]) ((j + 1 : Nat) : Int) nl n f e24 (nl2 && false) (n2 + 1) (catf n2 g (rowOf 1 [.val (.int .i64 (numI W[j]))]))
        else bif (Sh i)[j].data.toList == [64] then ref22_Line_L2_v1_l0 k0 fuel (i : Int) (macP W[j]).1 (ok && ((macP W[j]).2 == 0)) ((j + 1 : Nat) : Int) nl n f e24 nl2 n2 g
        else ref22_Line_L2_v1_l0 k0 fuel (i : Int) m (ok && (W[j].data.toList == (Sh i)[j].data.toList)) ((j + 1 : Nat) : Int) nl n f e24 nl2 n2 g := by
      intro α k0
      show ref22_Line_L2_v1_s0 _ _ _ k0 (i : Int) m ok (j : Int) nl n f e24 nl2 n2 g = _
      unfold ref22_Line_L2_v1_s0 e45
      rw [dec_t (show (j : Int) < (n : Int) by omega), inb_t (show (0 : Int) ≤ (i : Int) by omega) (show (i : Int) < ((16 : Nat) : Int) by omega), cond_true, cond_true, cond_true, Int.toNat_natCast, hl, inb_t (show (0 : Int) ≤ (j : Int) by omega) (show (j : Int) < (n : Int) by omega), cond_true, cond_true, cond_true, Int.toNat_natCast, hS.2 j j1, hW.2 j j2, beq_bl, beq_bl, beq_bl, i64_id (by omega) (by omega), num_eq, (macP_ok _ hw).2, bnd8 (by omega), cond_true, cond_true]
      show (bif (Sh i)[j].data.toList == [35] then _ else bif (Sh i)[j].data.toList == [64] then _ else _) = _
      cases (Sh i)[j].data.toList == [35] with
      | true =>
        rw [cond_true, cond_true]
        unfold numI
        cases numOk W[j] <;> cases ok <;> rfl
      | false =>
        rw [cond_false, cond_false]
        cases (Sh i)[j].data.toList == [64] with
        | true => rw [cond_true, cond_true]; cases ok <;> rfl
        | false => rw [cond_false, cond_false]; cases ok <;> rfl
    unfold col
    cases ha : (Sh i)[j].data.toList == [35] with
    | true =>
      obtain ⟨nl', n', g', h3, h4⟩ := col_loop hi hW hl hn hs nl d (j + 1) fuel m (ok && numOk W[j]) (nl2 && false) (n2 + 1) _ _ (by omega) (hg.snoc (numI W[j])) (by omega) (by omega)
      refine ⟨nl', n', g', by rw [cond_true]; exact h3, fun α k0 => ?_⟩
      rw [step, ha, cond_true, cond_true]; exact h4 α k0
    | false =>
      cases hb : (Sh i)[j].data.toList == [64] with
      | true =>
        obtain ⟨nl', n', g', h3, h4⟩ := col_loop hi hW hl hn hs nl d (j + 1) fuel (macP W[j]).1 (ok && ((macP W[j]).2 == 0)) nl2 n2 g ns (by omega) hg (by omega) (by omega)
        refine ⟨nl', n', g', by rw [cond_false, cond_true]; exact h3, fun α k0 => ?_⟩
        rw [step, ha, hb, cond_false, cond_true, cond_false, cond_true]; exact h4 α k0
      | false =>
        obtain ⟨nl', n', g', h3, h4⟩ := col_loop hi hW hl hn hs nl d (j + 1) fuel m (ok && (W[j].data.toList == (Sh i)[j].data.toList)) nl2 n2 g ns (by omega) hg (by omega) (by omega)
        refine ⟨nl', n', g', by rw [cond_false, cond_false]; exact h3, fun α k0 => ?_⟩
        rw [step, ha, hb, cond_false, cond_false, cond_false, cond_false]; exact h4 α k0
def mk : Nat → Int → List Int → Option C8
  | 0, m, ns => some ⟨1, 1, 0, ns.getD 0 0, 0, 0, 0, 0⟩
  | 1, m, ns => some ⟨1, 2, 0, ns.getD 0 0, 0, 0, 0, 0⟩
  | 2, m, ns => some ⟨1, 3, 0, ns.getD 0 0, 0, 0, 0, 0⟩
  | 3, m, ns => bif decide (ns.getD 0 0 ≤ 255) then some ⟨1, 4, ns.getD 0 0, 1, 0, 0, 0, 0⟩ else none
  | 4, m, ns => bif decide (ns.getD 0 0 ≤ 255) then some ⟨1, 4, ns.getD 0 0, 0, 0, 0, 0, 0⟩ else none
  | 5, m, ns => bif decide (ns.getD 0 0 ≤ 255) then some ⟨1, 5, ns.getD 0 0, ns.getD 1 0, 0, 0, 0, 0⟩ else none
  | 6, m, ns => bif decide (ns.getD 0 0 ≤ 255) then some ⟨1, 6, ns.getD 0 0, ns.getD 1 0, 0, 0, 0, 0⟩ else none
  | 7, m, ns => bif decide (ns.getD 1 0 ≤ 255) then bif decide (ns.getD 2 0 ≤ 255) then bif decide (ns.getD 0 0 ≤ 65535) then some ⟨1, 7, 0, 0, ns.getD 0 0, IntKind.u8.wrap (ns.getD 1 0), IntKind.u8.wrap (ns.getD 2 0), 0⟩ else none else none else none
  | 8, m, ns => bif decide (ns.getD 0 0 ≤ 65535) then some ⟨1, 8, 0, 0, ns.getD 0 0, 0, 0, 0⟩ else none
  | 9, m, ns => bif decide (ns.getD 1 0 ≤ 255) then bif decide (ns.getD 0 0 ≤ 65535) then some ⟨1, 9, ns.getD 1 0, 0, ns.getD 0 0, 0, 0, m⟩ else none else none
  | 10, m, ns => bif decide (ns.getD 0 0 ≤ 65535) then some ⟨1, 10, 0, 0, ns.getD 0 0, 0, 0, m⟩ else none
  | 11, m, ns => some ⟨2, 0, 0, 0, 0, 0, 0, 0⟩
  | 12, m, ns => some ⟨3, 0, 0, 0, 0, 0, 0, 0⟩
  | 13, m, ns => some ⟨4, 0, 0, 0, 0, 0, 0, 0⟩
  | 14, m, ns => some ⟨5, 0, 0, 0, 0, 0, 0, 0⟩
  | 15, m, ns => some ⟨6, 0, 0, 0, 0, 0, 0, 0⟩
  | _, _, _ => none
theorem nb_at {n : Nat} {g : Nat → Nat → PV} {ns : List Int} (h : NB n g ns) (j : Nat) (hj : j < ns.length) : numOf (g j 0) = ns.getD j 0 := by
  rw [h.2 j hj]; simp [List.getD, hj]
def MadeOk (i : Nat) (m : Int) (n : Nat) (g : Nat → Nat → PV) (ns : List Int) : Prop := ∃ (b : Bool) (c : C8), mk i m ns = (bif b then some c else none) ∧ ∀ (α : Type) (nl : Bool) (k0 : Int → Int → Int → Int → Int → Int → Int → Int → Bool → Bool → Nat → (Nat → Nat → PV) → Option α), ref22_made (i : Int) m nl n g k0 = k0 c.what c.kind c.port c.num c.vlan c.memb c.tagd c.mac b nl n g
theorem made_0 (m : Int) (n : Nat) (g : Nat → Nat → PV) (ns : List Int) (h : NB n g ns) (hc : 1 ≤ ns.length) : MadeOk 0 m n g ns := by
  have q0 : numOf (g 0 0) = ns.getD 0 0 := nb_at h 0 (by omega)
  have hn := h.1
  have e : ∀ (α : Type) (nl : Bool) (k0 : Int → Int → Int → Int → Int → Int → Int → Int → Bool → Bool → Nat → (Nat → Nat → PV) → Option α), ref22_made ((0 : Nat) : Int) m nl n g k0 = bif inb 0 3 then bif inb 0 n then k0 (1) (1) (0) ((numOf (g 0 0))) (0) (0) (0) (0) true nl n g else none else none := fun α nl k0 => by kernel_rfl
  simp only [q0, inb_t (show (0 : Int) ≤ 0 by omega) (show (0 : Int) < (n : Int) by omega), cond_true] at e
  refine ⟨true, ⟨1, 1, 0, ns.getD 0 0, 0, 0, 0, 0⟩, ?_, fun α nl k0 => ?_⟩
  · rfl
  · rw [e]; rfl
theorem made_1 (m : Int) (n : Nat) (g : Nat → Nat → PV) (ns : List Int) (h : NB n g ns) (hc : 1 ≤ ns.length) : MadeOk 1 m n g ns := by
  have q0 : numOf (g 0 0) = ns.getD 0 0 := nb_at h 0 (by omega)
  have hn := h.1
  have e : ∀ (α : Type) (nl : Bool) (k0 : Int → Int → Int → Int → Int → Int → Int → Int → Bool → Bool → Nat → (Nat → Nat → PV) → Option α), ref22_made ((1 : Nat) : Int) m nl n g k0 = bif inb 1 3 then bif inb 0 n then k0 (1) (2) (0) ((numOf (g 0 0))) (0) (0) (0) (0) true nl n g else none else none := fun α nl k0 => by kernel_rfl
  simp only [q0, inb_t (show (0 : Int) ≤ 0 by omega) (show (0 : Int) < (n : Int) by omega), cond_true] at e
  refine ⟨true, ⟨1, 2, 0, ns.getD 0 0, 0, 0, 0, 0⟩, ?_, fun α nl k0 => ?_⟩
  · rfl
  · rw [e]; rfl
theorem made_2 (m : Int) (n : Nat) (g : Nat → Nat → PV) (ns : List Int) (h : NB n g ns) (hc : 1 ≤ ns.length) : MadeOk 2 m n g ns := by
  have q0 : numOf (g 0 0) = ns.getD 0 0 := nb_at h 0 (by omega)
  have hn := h.1
  have e : ∀ (α : Type) (nl : Bool) (k0 : Int → Int → Int → Int → Int → Int → Int → Int → Bool → Bool → Nat → (Nat → Nat → PV) → Option α), ref22_made ((2 : Nat) : Int) m nl n g k0 = bif inb 2 3 then bif inb 0 n then k0 (1) (3) (0) ((numOf (g 0 0))) (0) (0) (0) (0) true nl n g else none else none := fun α nl k0 => by kernel_rfl
  simp only [q0, inb_t (show (0 : Int) ≤ 0 by omega) (show (0 : Int) < (n : Int) by omega), cond_true] at e
  refine ⟨true, ⟨1, 3, 0, ns.getD 0 0, 0, 0, 0, 0⟩, ?_, fun α nl k0 => ?_⟩
  · rfl
  · rw [e]; rfl
theorem made_3 (m : Int) (n : Nat) (g : Nat → Nat → PV) (ns : List Int) (h : NB n g ns) (hc : 1 ≤ ns.length) : MadeOk 3 m n g ns := by
  have q0 : numOf (g 0 0) = ns.getD 0 0 := nb_at h 0 (by omega)
  have hn := h.1
  have e : ∀ (α : Type) (nl : Bool) (k0 : Int → Int → Int → Int → Int → Int → Int → Int → Bool → Bool → Nat → (Nat → Nat → PV) → Option α), ref22_made ((3 : Nat) : Int) m nl n g k0 = bif inb 0 n then bif decide (numOf (g 0 0) ≤ 255) then k0 (1) (4) ((numOf (g 0 0))) (1) (0) (0) (0) (0) true nl n g else k0 (1) (4) ((numOf (g 0 0))) (1) (0) (0) (0) (0) false nl n g else none := fun α nl k0 => by kernel_rfl
  simp only [q0, inb_t (show (0 : Int) ≤ 0 by omega) (show (0 : Int) < (n : Int) by omega), cond_true] at e
  refine ⟨(decide (ns.getD 0 0 ≤ 255)), ⟨1, 4, ns.getD 0 0, 1, 0, 0, 0, 0⟩, ?_, fun α nl k0 => ?_⟩
  · rfl
  · rw [e]; cases decide (ns.getD 0 0 ≤ 255) <;> rfl
theorem made_4 (m : Int) (n : Nat) (g : Nat → Nat → PV) (ns : List Int) (h : NB n g ns) (hc : 1 ≤ ns.length) : MadeOk 4 m n g ns := by
  have q0 : numOf (g 0 0) = ns.getD 0 0 := nb_at h 0 (by omega)
  have hn := h.1
  have e : ∀ (α : Type) (nl : Bool) (k0 : Int → Int → Int → Int → Int → Int → Int → Int → Bool → Bool → Nat → (Nat → Nat → PV) → Option α), ref22_made ((4 : Nat) : Int) m nl n g k0 = bif inb 0 n then bif decide (numOf (g 0 0) ≤ 255) then k0 (1) (4) ((numOf (g 0 0))) (0) (0) (0) (0) (0) true nl n g else k0 (1) (4) ((numOf (g 0 0))) (0) (0) (0) (0) (0) false nl n g else none := fun α nl k0 => by kernel_rfl
  simp only [q0, inb_t (show (0 : Int) ≤ 0 by omega) (show (0 : Int) < (n : Int) by omega), cond_true] at e
  refine ⟨(decide (ns.getD 0 0 ≤ 255)), ⟨1, 4, ns.getD 0 0, 0, 0, 0, 0, 0⟩, ?_, fun α nl k0 => ?_⟩
  · rfl
  · rw [e]; cases decide (ns.getD 0 0 ≤ 255) <;> rfl
theorem made_5 (m : Int) (n : Nat) (g : Nat → Nat → PV) (ns : List Int) (h : NB n g ns) (hc : 2 ≤ ns.length) : MadeOk 5 m n g ns := by
  have q0 : numOf (g 0 0) = ns.getD 0 0 := nb_at h 0 (by omega)
  have q1 : numOf (g 1 0) = ns.getD 1 0 := nb_at h 1 (by omega)
  have hn := h.1
  have e : ∀ (α : Type) (nl : Bool) (k0 : Int → Int → Int → Int → Int → Int → Int → Int → Bool → Bool → Nat → (Nat → Nat → PV) → Option α), ref22_made ((5 : Nat) : Int) m nl n g k0 = bif inb 0 n then bif inb 1 n then bif decide (numOf (g 0 0) ≤ 255) then k0 (1) (5) ((numOf (g 0 0))) ((numOf (g 1 0))) (0) (0) (0) (0) true nl n g else k0 (1) (5) ((numOf (g 0 0))) ((numOf (g 1 0))) (0) (0) (0) (0) false nl n g else none else none := fun α nl k0 => by kernel_rfl
  simp only [q0, q1, inb_t (show (0 : Int) ≤ 0 by omega) (show (0 : Int) < (n : Int) by omega), inb_t (show (0 : Int) ≤ 1 by omega) (show (1 : Int) < (n : Int) by omega), cond_true] at e
  refine ⟨(decide (ns.getD 0 0 ≤ 255)), ⟨1, 5, ns.getD 0 0, ns.getD 1 0, 0, 0, 0, 0⟩, ?_, fun α nl k0 => ?_⟩
  · rfl
  · rw [e]; cases decide (ns.getD 0 0 ≤ 255) <;> rfl
theorem made_6 (m : Int) (n : Nat) (g : Nat → Nat → PV) (ns : List Int) (h : NB n g ns) (hc : 2 ≤ ns.length) : MadeOk 6 m n g ns := by
  have q0 : numOf (g 0 0) = ns.getD 0 0 := nb_at h 0 (by omega)
  have q1 : numOf (g 1 0) = ns.getD 1 0 := nb_at h 1 (by omega)
  have hn := h.1
  have e : ∀ (α : Type) (nl : Bool) (k0 : Int → Int → Int → Int → Int → Int → Int → Int → Bool → Bool → Nat → (Nat → Nat → PV) → Option α), ref22_made ((6 : Nat) : Int) m nl n g k0 = bif inb 0 n then bif inb 1 n then bif decide (numOf (g 0 0) ≤ 255) then k0 (1) (6) ((numOf (g 0 0))) ((numOf (g 1 0))) (0) (0) (0) (0) true nl n g else k0 (1) (6) ((numOf (g 0 0))) ((numOf (g 1 0))) (0) (0) (0) (0) false nl n g else none else none := fun α nl k0 => by kernel_rfl
  simp only [q0, q1, inb_t (show (0 : Int) ≤ 0 by omega) (show (0 : Int) < (n : Int) by omega), inb_t (show (0 : Int) ≤ 1 by omega) (show (1 : Int) < (n : Int) by omega), cond_true] at e
  refine ⟨(decide (ns.getD 0 0 ≤ 255)), ⟨1, 6, ns.getD 0 0, ns.getD 1 0, 0, 0, 0, 0⟩, ?_, fun α nl k0 => ?_⟩
  · rfl
  · rw [e]; cases decide (ns.getD 0 0 ≤ 255) <;> rfl
theorem made_7 (m : Int) (n : Nat) (g : Nat → Nat → PV) (ns : List Int) (h : NB n g ns) (hc : 3 ≤ ns.length) : MadeOk 7 m n g ns := by
  have q0 : numOf (g 0 0) = ns.getD 0 0 := nb_at h 0 (by omega)
  have q1 : numOf (g 1 0) = ns.getD 1 0 := nb_at h 1 (by omega)
  have q2 : numOf (g 2 0) = ns.getD 2 0 := nb_at h 2 (by omega)
  have hn := h.1
  have e : ∀ (α : Type) (nl : Bool) (k0 : Int → Int → Int → Int → Int → Int → Int → Int → Bool → Bool → Nat → (Nat → Nat → PV) → Option α), ref22_made ((7 : Nat) : Int) m nl n g k0 = bif inb 1 n then bif decide (numOf (g 1 0) > 255) then k0 0 0 0 0 0 0 0 0 false nl n g else bif inb 2 n then bif decide (numOf (g 2 0) > 255) then k0 0 0 0 0 0 0 0 0 false nl n g else bif inb 0 n then bif inb 1 n then bif inb 2 n then k0 (1) (7) (0) (0) ((numOf (g 0 0))) (IntKind.u8.wrap ((numOf (g 1 0)))) (IntKind.u8.wrap ((numOf (g 2 0)))) (0) (decide (numOf (g 0 0) ≤ 65535)) nl n g else none else none else none else none else none := fun α nl k0 => by kernel_rfl
  rw [q0, q1, q2, inb_t (show (0 : Int) ≤ 1 by omega) (show (1 : Int) < (n : Int) by omega), inb_t (show (0 : Int) ≤ 2 by omega) (show (2 : Int) < (n : Int) by omega), inb_t (show (0 : Int) ≤ 0 by omega) (show (0 : Int) < (n : Int) by omega)] at e
  simp only [cond_true] at e
  by_cases h1 : ns.getD 1 0 ≤ 255
  · by_cases h2 : ns.getD 2 0 ≤ 255
    · refine ⟨decide (ns.getD 0 0 ≤ 65535), ⟨1, 7, 0, 0, ns.getD 0 0, IntKind.u8.wrap (ns.getD 1 0), IntKind.u8.wrap (ns.getD 2 0), 0⟩, ?_, fun α nl k0 => ?_⟩
      · show (bif decide (ns.getD 1 0 ≤ 255) then bif decide (ns.getD 2 0 ≤ 255) then bif decide (ns.getD 0 0 ≤ 65535) then some (⟨1, 7, 0, 0, ns.getD 0 0, IntKind.u8.wrap (ns.getD 1 0), IntKind.u8.wrap (ns.getD 2 0), 0⟩ : C8) else none else none else none) = _; rw [dec_t h1, dec_t h2]; rfl
      · rw [e, dec_f (show ¬ ns.getD 1 0 > 255 by omega), dec_f (show ¬ ns.getD 2 0 > 255 by omega)]; rfl
    · refine ⟨false, ⟨0, 0, 0, 0, 0, 0, 0, 0⟩, ?_, fun α nl k0 => ?_⟩
      · show (bif decide (ns.getD 1 0 ≤ 255) then bif decide (ns.getD 2 0 ≤ 255) then bif decide (ns.getD 0 0 ≤ 65535) then some (⟨1, 7, 0, 0, ns.getD 0 0, IntKind.u8.wrap (ns.getD 1 0), IntKind.u8.wrap (ns.getD 2 0), 0⟩ : C8) else none else none else none) = _; rw [dec_t h1, dec_f h2]; rfl
      · rw [e, dec_f (show ¬ ns.getD 1 0 > 255 by omega), dec_t (show ns.getD 2 0 > 255 by omega)]; rfl
  · refine ⟨false, ⟨0, 0, 0, 0, 0, 0, 0, 0⟩, ?_, fun α nl k0 => ?_⟩
    · show (bif decide (ns.getD 1 0 ≤ 255) then bif decide (ns.getD 2 0 ≤ 255) then bif decide (ns.getD 0 0 ≤ 65535) then some (⟨1, 7, 0, 0, ns.getD 0 0, IntKind.u8.wrap (ns.getD 1 0), IntKind.u8.wrap (ns.getD 2 0), 0⟩ : C8) else none else none else none) = _; rw [dec_f h1]; rfl
    · rw [e, dec_t (show ns.getD 1 0 > 255 by omega)]; rfl
theorem made_8 (m : Int) (n : Nat) (g : Nat → Nat → PV) (ns : List Int) (h : NB n g ns) (hc : 1 ≤ ns.length) : MadeOk 8 m n g ns := by
  have q0 : numOf (g 0 0) = ns.getD 0 0 := nb_at h 0 (by omega)
  have hn := h.1
  have e : ∀ (α : Type) (nl : Bool) (k0 : Int → Int → Int → Int → Int → Int → Int → Int → Bool → Bool → Nat → (Nat → Nat → PV) → Option α), ref22_made ((8 : Nat) : Int) m nl n g k0 = bif inb 0 n then k0 (1) (8) (0) (0) ((numOf (g 0 0))) (0) (0) (0) (decide (numOf (g 0 0) ≤ 65535)) nl n g else none := fun α nl k0 => by kernel_rfl
  simp only [q0, inb_t (show (0 : Int) ≤ 0 by omega) (show (0 : Int) < (n : Int) by omega), cond_true] at e
  refine ⟨(decide (ns.getD 0 0 ≤ 65535)), ⟨1, 8, 0, 0, ns.getD 0 0, 0, 0, 0⟩, ?_, fun α nl k0 => ?_⟩
  · rfl
  · rw [e]
theorem made_9 (m : Int) (n : Nat) (g : Nat → Nat → PV) (ns : List Int) (h : NB n g ns) (hc : 2 ≤ ns.length) : MadeOk 9 m n g ns := by
  have q0 : numOf (g 0 0) = ns.getD 0 0 := nb_at h 0 (by omega)
  have q1 : numOf (g 1 0) = ns.getD 1 0 := nb_at h 1 (by omega)
  have hn := h.1
  have e : ∀ (α : Type) (nl : Bool) (k0 : Int → Int → Int → Int → Int → Int → Int → Int → Bool → Bool → Nat → (Nat → Nat → PV) → Option α), ref22_made ((9 : Nat) : Int) m nl n g k0 = bif inb 0 n then bif inb 1 n then bif decide (numOf (g 1 0) ≤ 255) then k0 (1) (9) ((numOf (g 1 0))) (0) ((numOf (g 0 0))) (0) (0) (m) (decide (numOf (g 0 0) ≤ 65535)) nl n g else k0 (1) (9) ((numOf (g 1 0))) (0) ((numOf (g 0 0))) (0) (0) (m) false nl n g else none else none := fun α nl k0 => by kernel_rfl
  simp only [q0, q1, inb_t (show (0 : Int) ≤ 0 by omega) (show (0 : Int) < (n : Int) by omega), inb_t (show (0 : Int) ≤ 1 by omega) (show (1 : Int) < (n : Int) by omega), cond_true] at e
  refine ⟨(decide (ns.getD 1 0 ≤ 255)) && (decide (ns.getD 0 0 ≤ 65535)), ⟨1, 9, ns.getD 1 0, 0, ns.getD 0 0, 0, 0, m⟩, ?_, fun α nl k0 => ?_⟩
  · show (bif decide (ns.getD 1 0 ≤ 255) then bif decide (ns.getD 0 0 ≤ 65535) then some (⟨1, 9, ns.getD 1 0, 0, ns.getD 0 0, 0, 0, m⟩ : C8) else none else none) = _; cases decide (ns.getD 1 0 ≤ 255) <;> cases decide (ns.getD 0 0 ≤ 65535) <;> rfl
  · rw [e]; cases decide (ns.getD 1 0 ≤ 255) <;> rfl
theorem made_10 (m : Int) (n : Nat) (g : Nat → Nat → PV) (ns : List Int) (h : NB n g ns) (hc : 1 ≤ ns.length) : MadeOk 10 m n g ns := by
  have q0 : numOf (g 0 0) = ns.getD 0 0 := nb_at h 0 (by omega)
  have hn := h.1
  have e : ∀ (α : Type) (nl : Bool) (k0 : Int → Int → Int → Int → Int → Int → Int → Int → Bool → Bool → Nat → (Nat → Nat → PV) → Option α), ref22_made ((10 : Nat) : Int) m nl n g k0 = bif inb 0 n then k0 (1) (10) (0) (0) ((numOf (g 0 0))) (0) (0) (m) (decide (numOf (g 0 0) ≤ 65535)) nl n g else none := fun α nl k0 => by kernel_rfl
  simp only [q0, inb_t (show (0 : Int) ≤ 0 by omega) (show (0 : Int) < (n : Int) by omega), cond_true] at e
  refine ⟨(decide (ns.getD 0 0 ≤ 65535)), ⟨1, 10, 0, 0, ns.getD 0 0, 0, 0, m⟩, ?_, fun α nl k0 => ?_⟩
  · rfl
  · rw [e]
theorem made_11 (m : Int) (n : Nat) (g : Nat → Nat → PV) (ns : List Int) (h : NB n g ns) (hc : 0 ≤ ns.length) : MadeOk 11 m n g ns := by
  have hn := h.1
  have e : ∀ (α : Type) (nl : Bool) (k0 : Int → Int → Int → Int → Int → Int → Int → Int → Bool → Bool → Nat → (Nat → Nat → PV) → Option α), ref22_made ((11 : Nat) : Int) m nl n g k0 = k0 (2) (0) (0) (0) (0) (0) (0) (0) true nl n g := fun α nl k0 => by kernel_rfl
  refine ⟨true, ⟨2, 0, 0, 0, 0, 0, 0, 0⟩, ?_, fun α nl k0 => ?_⟩
  · rfl
  · rw [e]
theorem made_12 (m : Int) (n : Nat) (g : Nat → Nat → PV) (ns : List Int) (h : NB n g ns) (hc : 0 ≤ ns.length) : MadeOk 12 m n g ns := by
  have hn := h.1
  have e : ∀ (α : Type) (nl : Bool) (k0 : Int → Int → Int → Int → Int → Int → Int → Int → Bool → Bool → Nat → (Nat → Nat → PV) → Option α), ref22_made ((12 : Nat) : Int) m nl n g k0 = k0 (3) (0) (0) (0) (0) (0) (0) (0) true nl n g := fun α nl k0 => by kernel_rfl
  refine ⟨true, ⟨3, 0, 0, 0, 0, 0, 0, 0⟩, ?_, fun α nl k0 => ?_⟩
  · rfl
  · rw [e]
theorem made_13 (m : Int) (n : Nat) (g : Nat → Nat → PV) (ns : List Int) (h : NB n g ns) (hc : 0 ≤ ns.length) : MadeOk 13 m n g ns := by
  have hn := h.1
  have e : ∀ (α : Type) (nl : Bool) (k0 : Int → Int → Int → Int → Int → Int → Int → Int → Bool → Bool → Nat → (Nat → Nat → PV) → Option α), ref22_made ((13 : Nat) : Int) m nl n g k0 = k0 (4) (0) (0) (0) (0) (0) (0) (0) true nl n g := fun α nl k0 => by kernel_rfl
  refine ⟨true, ⟨4, 0, 0, 0, 0, 0, 0, 0⟩, ?_, fun α nl k0 => ?_⟩
  · rfl
  · rw [e]
theorem made_14 (m : Int) (n : Nat) (g : Nat → Nat → PV) (ns : List Int) (h : NB n g ns) (hc : 0 ≤ ns.length) : MadeOk 14 m n g ns := by
  have hn := h.1
  have e : ∀ (α : Type) (nl : Bool) (k0 : Int → Int → Int → Int → Int → Int → Int → Int → Bool → Bool → Nat → (Nat → Nat → PV) → Option α), ref22_made ((14 : Nat) : Int) m nl n g k0 = k0 (5) (0) (0) (0) (0) (0) (0) (0) true nl n g := fun α nl k0 => by kernel_rfl
  refine ⟨true, ⟨5, 0, 0, 0, 0, 0, 0, 0⟩, ?_, fun α nl k0 => ?_⟩
  · rfl
  · rw [e]
theorem made_15 (m : Int) (n : Nat) (g : Nat → Nat → PV) (ns : List Int) (h : NB n g ns) (hc : 0 ≤ ns.length) : MadeOk 15 m n g ns := by
  have hn := h.1
  have e : ∀ (α : Type) (nl : Bool) (k0 : Int → Int → Int → Int → Int → Int → Int → Int → Bool → Bool → Nat → (Nat → Nat → PV) → Option α), ref22_made ((15 : Nat) : Int) m nl n g k0 = k0 (6) (0) (0) (0) (0) (0) (0) (0) true nl n g := fun α nl k0 => by kernel_rfl
  refine ⟨true, ⟨6, 0, 0, 0, 0, 0, 0, 0⟩, ?_, fun α nl k0 => ?_⟩
  · rfl
  · rw [e]
def cn : Nat → Nat := fun i => cnt (Sh i)
theorem made_ok (i : Nat) (hi : i < 16) (m : Int) (n : Nat) (g : Nat → Nat → PV) (ns : List Int) (h : NB n g ns) (hc : ns.length = cn i) : MadeOk i m n g ns := by
  match i, hi with
  | 0, _ => exact made_0 m n g ns h (by rw [hc, show cn 0 = 1 by kernel_rfl]; exact Nat.le_refl _)
  | 1, _ => exact made_1 m n g ns h (by rw [hc, show cn 1 = 1 by kernel_rfl]; exact Nat.le_refl _)
  | 2, _ => exact made_2 m n g ns h (by rw [hc, show cn 2 = 1 by kernel_rfl]; exact Nat.le_refl _)
  | 3, _ => exact made_3 m n g ns h (by rw [hc, show cn 3 = 1 by kernel_rfl]; exact Nat.le_refl _)
  | 4, _ => exact made_4 m n g ns h (by rw [hc, show cn 4 = 1 by kernel_rfl]; exact Nat.le_refl _)
  | 5, _ => exact made_5 m n g ns h (by rw [hc, show cn 5 = 2 by kernel_rfl]; exact Nat.le_refl _)
  | 6, _ => exact made_6 m n g ns h (by rw [hc, show cn 6 = 2 by kernel_rfl]; exact Nat.le_refl _)
  | 7, _ => exact made_7 m n g ns h (by rw [hc, show cn 7 = 3 by kernel_rfl]; exact Nat.le_refl _)
  | 8, _ => exact made_8 m n g ns h (by rw [hc, show cn 8 = 1 by kernel_rfl]; exact Nat.le_refl _)
  | 9, _ => exact made_9 m n g ns h (by rw [hc, show cn 9 = 2 by kernel_rfl]; exact Nat.le_refl _)
  | 10, _ => exact made_10 m n g ns h (by rw [hc, show cn 10 = 1 by kernel_rfl]; exact Nat.le_refl _)
  | 11, _ => exact made_11 m n g ns h (by rw [hc, show cn 11 = 0 by kernel_rfl]; exact Nat.le_refl _)
  | 12, _ => exact made_12 m n g ns h (by rw [hc, show cn 12 = 0 by kernel_rfl]; exact Nat.le_refl _)
  | 13, _ => exact made_13 m n g ns h (by rw [hc, show cn 13 = 0 by kernel_rfl]; exact Nat.le_refl _)
  | 14, _ => exact made_14 m n g ns h (by rw [hc, show cn 14 = 0 by kernel_rfl]; exact Nat.le_refl _)
  | 15, _ => exact made_15 m n g ns h (by rw [hc, show cn 15 = 0 by kernel_rfl]; exact Nat.le_refl _)
  | j + 16, hj => omega
def rf (i : Nat) (W : List ByteArray) : Option C8 := bif (Sh i).length == W.length then bif (col (Sh i) W 0 true []).2.1 then mk i (col (Sh i) W 0 true []).1 (col (Sh i) W 0 true []).2.2 else none else none
theorem lineR_loop {n : Nat} {f : Nat → Nat → PV} {W : List ByteArray} (hW : TB n f W) (hn : n ≤ 1000) (hs : ∀ w ∈ W, w.size ≤ 200) (nl : Bool) (α : Type) (k0 : Int → Int → Int → Int → Int → Int → Int → Int → Option α) (k1 : Option α) : ∀ (d i fuel : Nat), i + d = 16 → d < fuel →
    ref22_Line_L0_l0 k0 k1 fuel (i : Int) nl n f e24 = match first (fun j => rf j W) i d with
      | none => k1
      | some c => kC k0 c
  | 0, i, fuel + 1, hi, hf => by
    obtain rfl : i = 16 := by omega
    show ref22_Line_L0_s0 _ _ _ k0 k1 ((16 : Nat) : Int) nl n f e24 = k1
    unfold ref22_Line_L0_s0
    rw [dec_f (by omega), cond_false]
  | d + 1, i, fuel + 1, hi, hf => by
    have hS : TB (lenOf (e24 i 0)) (fnOf (e24 i 0)) (Sh i) := TB.row _ _
    have IH := lineR_loop hW hn hs nl α k0 k1 d (i + 1) fuel (by omega) (by omega)
    show ref22_Line_L0_s0 _ _ _ k0 k1 (i : Int) nl n f e24 = _
    unfold ref22_Line_L0_s0
    rw [dec_t (show (i : Int) < 16 by omega), inb_t (show (0 : Int) ≤ (i : Int) by omega) (show (i : Int) < ((16 : Nat) : Int) by omega), cond_true, cond_true, Int.toNat_natCast]
    unfold first
    unfold rf
    by_cases hl : lenOf (e24 i 0) = n
    · rw [show (((lenOf (e24 i 0) : Nat) : Int) != (n : Int)) = false by rw [hl]; simp, cond_false, show ((Sh i).length == W.length) = true by rw [hS.1, hW.1, hl]; exact beq_self_eq_true n, cond_true]
      obtain ⟨nl', n', g', h1, h2⟩ := col_loop (by omega) hW hl hn hs nl n 0 18446744073709551616 0 true true 0 (fun _ _ => .val undef) [] (by omega) (NB.nil _) (Nat.le_refl _) (by omega)
      rw [List.drop_zero, List.drop_zero] at h1 h2
      unfold ref22_Line_L2_v1
      refine (h2 α _).trans ?_
      have hcl := col_len (Sh i) W 0 true [] (by rw [hS.1, hW.1, hl])
      obtain ⟨b, c, m1, m2⟩ := made_ok i (by omega) (col (Sh i) W 0 true []).1 n' g' _ h1 (by rw [hcl]; simp; rfl)
      cases (col (Sh i) W 0 true []).2.1 with
      | false =>
        rw [cond_false]
        show ref22_Line_L0_l0 k0 k1 fuel (IntKind.i64.wrap ((i : Int) + 1)) nl n f e24 = _
        rw [i64_id (by omega) (by omega)]
        exact IH
      | true =>
        rw [cond_true, m1]
        show ref22_made (i : Int) _ nl' n' g' _ = _
        rw [m2]
        cases b with
        | true => rfl
        | false =>
          show ref22_Line_L0_l0 k0 k1 fuel (IntKind.i64.wrap ((i : Int) + 1)) nl n f e24 = _
          rw [i64_id (by omega) (by omega)]
          exact IH
    · rw [show (((lenOf (e24 i 0) : Nat) : Int) != (n : Int)) = true by simp; omega, cond_true, show ((Sh i).length == W.length) = false by rw [hS.1, hW.1]; exact beq_false_of_ne hl, cond_false, i64_id (by omega) (by omega)]
      exact IH
theorem cons_of {W : List ByteArray} {n : Nat} (h : W.length = n + 1) : ∃ a V, W = a :: V ∧ V.length = n := by
  cases W with
  | nil => simp at h
  | cons a V => exact ⟨a, V, rfl, by simpa using h⟩
theorem same_0 (W : List ByteArray) : tk 0 W = rf 0 W := by
  have hv : (Vs 0).length = 2 := by kernel_rfl
  have hs : (Sh 0).length = 2 := by kernel_rfl
  by_cases h : W.length = 2
  · have t0 := h
    obtain ⟨w0, W0, y0, t1⟩ := cons_of t0
    obtain ⟨w1, W1, y1, t2⟩ := cons_of t1
    obtain rfl := List.length_eq_zero_iff.1 t2
    subst y1 y0
    have l : tk 0 [w0, w1] = (fun (b0 n1 : Bool) => (bif b0 then some ((ci 0) : C8) else none).bind fun c0 => (bif n1 then some ({ c0 with num := numI w1 } : C8) else none).bind fun c1 => some c1) (w0.data.toList == [112, 114, 105, 111, 114, 105, 116, 121]) (numOk w1) := by kernel_rfl
    have r : rf 0 [w0, w1] = (fun (b0 n1 : Bool) => bif ((true && b0) && n1) then some (⟨1, 1, 0, numI w1, 0, 0, 0, 0⟩ : C8) else none) (w0.data.toList == [112, 114, 105, 111, 114, 105, 116, 121]) (numOk w1) := by kernel_rfl
    rw [l, r]
    generalize (w0.data.toList == [112, 114, 105, 111, 114, 105, 116, 121]) = b0
    generalize (numOk w1) = n1
    cases b0 <;> cases n1 <;> rfl
  · unfold tk rf
    rw [show ((Vs 0).length == W.length) = false by rw [hv]; exact beq_false_of_ne (fun e => h e.symm), show ((Sh 0).length == W.length) = false by rw [hs]; exact beq_false_of_ne (fun e => h e.symm)]; rfl
theorem same_1 (W : List ByteArray) : tk 1 W = rf 1 W := by
  have hv : (Vs 1).length = 2 := by kernel_rfl
  have hs : (Sh 1).length = 2 := by kernel_rfl
  by_cases h : W.length = 2
  · have t0 := h
    obtain ⟨w0, W0, y0, t1⟩ := cons_of t0
    obtain ⟨w1, W1, y1, t2⟩ := cons_of t1
    obtain rfl := List.length_eq_zero_iff.1 t2
    subst y1 y0
    have l : tk 1 [w0, w1] = (fun (b0 n1 : Bool) => (bif b0 then some ((ci 1) : C8) else none).bind fun c0 => (bif n1 then some ({ c0 with num := numI w1 } : C8) else none).bind fun c1 => some c1) (w0.data.toList == [97, 103, 101]) (numOk w1) := by kernel_rfl
    have r : rf 1 [w0, w1] = (fun (b0 n1 : Bool) => bif ((true && b0) && n1) then some (⟨1, 2, 0, numI w1, 0, 0, 0, 0⟩ : C8) else none) (w0.data.toList == [97, 103, 101]) (numOk w1) := by kernel_rfl
    rw [l, r]
    generalize (w0.data.toList == [97, 103, 101]) = b0
    generalize (numOk w1) = n1
    cases b0 <;> cases n1 <;> rfl
  · unfold tk rf
    rw [show ((Vs 1).length == W.length) = false by rw [hv]; exact beq_false_of_ne (fun e => h e.symm), show ((Sh 1).length == W.length) = false by rw [hs]; exact beq_false_of_ne (fun e => h e.symm)]; rfl
theorem same_2 (W : List ByteArray) : tk 2 W = rf 2 W := by
  have hv : (Vs 2).length = 2 := by kernel_rfl
  have hs : (Sh 2).length = 2 := by kernel_rfl
  by_cases h : W.length = 2
  · have t0 := h
    obtain ⟨w0, W0, y0, t1⟩ := cons_of t0
    obtain ⟨w1, W1, y1, t2⟩ := cons_of t1
    obtain rfl := List.length_eq_zero_iff.1 t2
    subst y1 y0
    have l : tk 2 [w0, w1] = (fun (b0 n1 : Bool) => (bif b0 then some ((ci 2) : C8) else none).bind fun c0 => (bif n1 then some ({ c0 with num := numI w1 } : C8) else none).bind fun c1 => some c1) (w0.data.toList == [100, 101, 108, 97, 121]) (numOk w1) := by kernel_rfl
    have r : rf 2 [w0, w1] = (fun (b0 n1 : Bool) => bif ((true && b0) && n1) then some (⟨1, 3, 0, numI w1, 0, 0, 0, 0⟩ : C8) else none) (w0.data.toList == [100, 101, 108, 97, 121]) (numOk w1) := by kernel_rfl
    rw [l, r]
    generalize (w0.data.toList == [100, 101, 108, 97, 121]) = b0
    generalize (numOk w1) = n1
    cases b0 <;> cases n1 <;> rfl
  · unfold tk rf
    rw [show ((Vs 2).length == W.length) = false by rw [hv]; exact beq_false_of_ne (fun e => h e.symm), show ((Sh 2).length == W.length) = false by rw [hs]; exact beq_false_of_ne (fun e => h e.symm)]; rfl
theorem same_3 (W : List ByteArray) : tk 3 W = rf 3 W := by
  have hv : (Vs 3).length = 3 := by kernel_rfl
  have hs : (Sh 3).length = 3 := by kernel_rfl
  by_cases h : W.length = 3
  · have t0 := h
    obtain ⟨w0, W0, y0, t1⟩ := cons_of t0
    obtain ⟨w1, W1, y1, t2⟩ := cons_of t1
    obtain ⟨w2, W2, y2, t3⟩ := cons_of t2
    obtain rfl := List.length_eq_zero_iff.1 t3
    subst y2 y1 y0
    have l : tk 3 [w0, w1, w2] = (fun (b0 n1 b2 d1 : Bool) => (bif b0 then some ((ci 3) : C8) else none).bind fun c0 => (bif n1 && d1 then some ({ c0 with port := numI w1 } : C8) else none).bind fun c1 => (bif b2 then some (c1 : C8) else none).bind fun c2 => some c2) (w0.data.toList == [112, 111, 114, 116]) (numOk w1) (w2.data.toList == [117, 112]) (decide (numI w1 ≤ 255)) := by kernel_rfl
    have r : rf 3 [w0, w1, w2] = (fun (b0 n1 b2 d1 : Bool) => bif (((true && b0) && n1) && b2) then bif d1 then some (⟨1, 4, numI w1, 1, 0, 0, 0, 0⟩ : C8) else none else none) (w0.data.toList == [112, 111, 114, 116]) (numOk w1) (w2.data.toList == [117, 112]) (decide (numI w1 ≤ 255)) := by kernel_rfl
    rw [l, r]
    generalize (w0.data.toList == [112, 111, 114, 116]) = b0
    generalize (numOk w1) = n1
    generalize (w2.data.toList == [117, 112]) = b2
    generalize (decide (numI w1 ≤ 255)) = d1
    cases b0 <;> cases n1 <;> cases b2 <;> cases d1 <;> rfl
  · unfold tk rf
    rw [show ((Vs 3).length == W.length) = false by rw [hv]; exact beq_false_of_ne (fun e => h e.symm), show ((Sh 3).length == W.length) = false by rw [hs]; exact beq_false_of_ne (fun e => h e.symm)]; rfl
theorem same_4 (W : List ByteArray) : tk 4 W = rf 4 W := by
  have hv : (Vs 4).length = 3 := by kernel_rfl
  have hs : (Sh 4).length = 3 := by kernel_rfl
  by_cases h : W.length = 3
  · have t0 := h
    obtain ⟨w0, W0, y0, t1⟩ := cons_of t0
    obtain ⟨w1, W1, y1, t2⟩ := cons_of t1
    obtain ⟨w2, W2, y2, t3⟩ := cons_of t2
    obtain rfl := List.length_eq_zero_iff.1 t3
    subst y2 y1 y0
    have l : tk 4 [w0, w1, w2] = (fun (b0 n1 b2 d1 : Bool) => (bif b0 then some ((ci 4) : C8) else none).bind fun c0 => (bif n1 && d1 then some ({ c0 with port := numI w1 } : C8) else none).bind fun c1 => (bif b2 then some (c1 : C8) else none).bind fun c2 => some c2) (w0.data.toList == [112, 111, 114, 116]) (numOk w1) (w2.data.toList == [100, 111, 119, 110]) (decide (numI w1 ≤ 255)) := by kernel_rfl
    have r : rf 4 [w0, w1, w2] = (fun (b0 n1 b2 d1 : Bool) => bif (((true && b0) && n1) && b2) then bif d1 then some (⟨1, 4, numI w1, 0, 0, 0, 0, 0⟩ : C8) else none else none) (w0.data.toList == [112, 111, 114, 116]) (numOk w1) (w2.data.toList == [100, 111, 119, 110]) (decide (numI w1 ≤ 255)) := by kernel_rfl
    rw [l, r]
    generalize (w0.data.toList == [112, 111, 114, 116]) = b0
    generalize (numOk w1) = n1
    generalize (w2.data.toList == [100, 111, 119, 110]) = b2
    generalize (decide (numI w1 ≤ 255)) = d1
    cases b0 <;> cases n1 <;> cases b2 <;> cases d1 <;> rfl
  · unfold tk rf
    rw [show ((Vs 4).length == W.length) = false by rw [hv]; exact beq_false_of_ne (fun e => h e.symm), show ((Sh 4).length == W.length) = false by rw [hs]; exact beq_false_of_ne (fun e => h e.symm)]; rfl
theorem same_5 (W : List ByteArray) : tk 5 W = rf 5 W := by
  have hv : (Vs 5).length = 4 := by kernel_rfl
  have hs : (Sh 5).length = 4 := by kernel_rfl
  by_cases h : W.length = 4
  · have t0 := h
    obtain ⟨w0, W0, y0, t1⟩ := cons_of t0
    obtain ⟨w1, W1, y1, t2⟩ := cons_of t1
    obtain ⟨w2, W2, y2, t3⟩ := cons_of t2
    obtain ⟨w3, W3, y3, t4⟩ := cons_of t3
    obtain rfl := List.length_eq_zero_iff.1 t4
    subst y3 y2 y1 y0
    have l : tk 5 [w0, w1, w2, w3] = (fun (b0 n1 b2 n3 d1 : Bool) => (bif b0 then some ((ci 5) : C8) else none).bind fun c0 => (bif n1 && d1 then some ({ c0 with port := numI w1 } : C8) else none).bind fun c1 => (bif b2 then some (c1 : C8) else none).bind fun c2 => (bif n3 then some ({ c2 with num := numI w3 } : C8) else none).bind fun c3 => some c3) (w0.data.toList == [112, 111, 114, 116]) (numOk w1) (w2.data.toList == [99, 111, 115, 116]) (numOk w3) (decide (numI w1 ≤ 255)) := by kernel_rfl
    have r : rf 5 [w0, w1, w2, w3] = (fun (b0 n1 b2 n3 d1 : Bool) => bif ((((true && b0) && n1) && b2) && n3) then bif d1 then some (⟨1, 5, numI w1, numI w3, 0, 0, 0, 0⟩ : C8) else none else none) (w0.data.toList == [112, 111, 114, 116]) (numOk w1) (w2.data.toList == [99, 111, 115, 116]) (numOk w3) (decide (numI w1 ≤ 255)) := by kernel_rfl
    rw [l, r]
    generalize (w0.data.toList == [112, 111, 114, 116]) = b0
    generalize (numOk w1) = n1
    generalize (w2.data.toList == [99, 111, 115, 116]) = b2
    generalize (numOk w3) = n3
    generalize (decide (numI w1 ≤ 255)) = d1
    cases b0 <;> cases n1 <;> cases b2 <;> cases n3 <;> cases d1 <;> rfl
  · unfold tk rf
    rw [show ((Vs 5).length == W.length) = false by rw [hv]; exact beq_false_of_ne (fun e => h e.symm), show ((Sh 5).length == W.length) = false by rw [hs]; exact beq_false_of_ne (fun e => h e.symm)]; rfl
theorem same_6 (W : List ByteArray) : tk 6 W = rf 6 W := by
  have hv : (Vs 6).length = 4 := by kernel_rfl
  have hs : (Sh 6).length = 4 := by kernel_rfl
  by_cases h : W.length = 4
  · have t0 := h
    obtain ⟨w0, W0, y0, t1⟩ := cons_of t0
    obtain ⟨w1, W1, y1, t2⟩ := cons_of t1
    obtain ⟨w2, W2, y2, t3⟩ := cons_of t2
    obtain ⟨w3, W3, y3, t4⟩ := cons_of t3
    obtain rfl := List.length_eq_zero_iff.1 t4
    subst y3 y2 y1 y0
    have l : tk 6 [w0, w1, w2, w3] = (fun (b0 n1 b2 n3 d1 : Bool) => (bif b0 then some ((ci 6) : C8) else none).bind fun c0 => (bif n1 && d1 then some ({ c0 with port := numI w1 } : C8) else none).bind fun c1 => (bif b2 then some (c1 : C8) else none).bind fun c2 => (bif n3 then some ({ c2 with num := numI w3 } : C8) else none).bind fun c3 => some c3) (w0.data.toList == [112, 111, 114, 116]) (numOk w1) (w2.data.toList == [112, 118, 105, 100]) (numOk w3) (decide (numI w1 ≤ 255)) := by kernel_rfl
    have r : rf 6 [w0, w1, w2, w3] = (fun (b0 n1 b2 n3 d1 : Bool) => bif ((((true && b0) && n1) && b2) && n3) then bif d1 then some (⟨1, 6, numI w1, numI w3, 0, 0, 0, 0⟩ : C8) else none else none) (w0.data.toList == [112, 111, 114, 116]) (numOk w1) (w2.data.toList == [112, 118, 105, 100]) (numOk w3) (decide (numI w1 ≤ 255)) := by kernel_rfl
    rw [l, r]
    generalize (w0.data.toList == [112, 111, 114, 116]) = b0
    generalize (numOk w1) = n1
    generalize (w2.data.toList == [112, 118, 105, 100]) = b2
    generalize (numOk w3) = n3
    generalize (decide (numI w1 ≤ 255)) = d1
    cases b0 <;> cases n1 <;> cases b2 <;> cases n3 <;> cases d1 <;> rfl
  · unfold tk rf
    rw [show ((Vs 6).length == W.length) = false by rw [hv]; exact beq_false_of_ne (fun e => h e.symm), show ((Sh 6).length == W.length) = false by rw [hs]; exact beq_false_of_ne (fun e => h e.symm)]; rfl
theorem same_7 (W : List ByteArray) : tk 7 W = rf 7 W := by
  have hv : (Vs 7).length = 6 := by kernel_rfl
  have hs : (Sh 7).length = 6 := by kernel_rfl
  by_cases h : W.length = 6
  · have t0 := h
    obtain ⟨w0, W0, y0, t1⟩ := cons_of t0
    obtain ⟨w1, W1, y1, t2⟩ := cons_of t1
    obtain ⟨w2, W2, y2, t3⟩ := cons_of t2
    obtain ⟨w3, W3, y3, t4⟩ := cons_of t3
    obtain ⟨w4, W4, y4, t5⟩ := cons_of t4
    obtain ⟨w5, W5, y5, t6⟩ := cons_of t5
    obtain rfl := List.length_eq_zero_iff.1 t6
    subst y5 y4 y3 y2 y1 y0
    have l : tk 7 [w0, w1, w2, w3, w4, w5] = (fun (b0 n1 b2 n3 b4 n5 d1 d3 d5 : Bool) => (bif b0 then some ((ci 7) : C8) else none).bind fun c0 => (bif n1 && d1 then some ({ c0 with vlan := numI w1 } : C8) else none).bind fun c1 => (bif b2 then some (c1 : C8) else none).bind fun c2 => (bif n3 && d3 then some ({ c2 with memb := IntKind.u8.wrap (numI w3) } : C8) else none).bind fun c3 => (bif b4 then some (c3 : C8) else none).bind fun c4 => (bif n5 && d5 then some ({ c4 with tagd := IntKind.u8.wrap (numI w5) } : C8) else none).bind fun c5 => some c5) (w0.data.toList == [118, 108, 97, 110]) (numOk w1) (w2.data.toList == [109, 101, 109, 98, 101, 114, 115]) (numOk w3) (w4.data.toList == [116, 97, 103, 103, 101, 100]) (numOk w5) (decide (numI w1 ≤ 65535)) (decide (numI w3 ≤ 255)) (decide (numI w5 ≤ 255)) := by kernel_rfl
    have r : rf 7 [w0, w1, w2, w3, w4, w5] = (fun (b0 n1 b2 n3 b4 n5 d1 d3 d5 : Bool) => bif ((((((true && b0) && n1) && b2) && n3) && b4) && n5) then bif d3 then bif d5 then bif d1 then some (⟨1, 7, 0, 0, numI w1, IntKind.u8.wrap (numI w3), IntKind.u8.wrap (numI w5), 0⟩ : C8) else none else none else none else none) (w0.data.toList == [118, 108, 97, 110]) (numOk w1) (w2.data.toList == [109, 101, 109, 98, 101, 114, 115]) (numOk w3) (w4.data.toList == [116, 97, 103, 103, 101, 100]) (numOk w5) (decide (numI w1 ≤ 65535)) (decide (numI w3 ≤ 255)) (decide (numI w5 ≤ 255)) := by kernel_rfl
    rw [l, r]
    generalize (w0.data.toList == [118, 108, 97, 110]) = b0
    generalize (numOk w1) = n1
    generalize (w2.data.toList == [109, 101, 109, 98, 101, 114, 115]) = b2
    generalize (numOk w3) = n3
    generalize (w4.data.toList == [116, 97, 103, 103, 101, 100]) = b4
    generalize (numOk w5) = n5
    generalize (decide (numI w1 ≤ 65535)) = d1
    generalize (decide (numI w3 ≤ 255)) = d3
    generalize (decide (numI w5 ≤ 255)) = d5
    cases b0 <;> cases n1 <;> cases b2 <;> cases n3 <;> cases b4 <;> cases n5 <;> cases d1 <;> cases d3 <;> cases d5 <;> rfl
  · unfold tk rf
    rw [show ((Vs 7).length == W.length) = false by rw [hv]; exact beq_false_of_ne (fun e => h e.symm), show ((Sh 7).length == W.length) = false by rw [hs]; exact beq_false_of_ne (fun e => h e.symm)]; rfl
theorem same_8 (W : List ByteArray) : tk 8 W = rf 8 W := by
  have hv : (Vs 8).length = 3 := by kernel_rfl
  have hs : (Sh 8).length = 3 := by kernel_rfl
  by_cases h : W.length = 3
  · have t0 := h
    obtain ⟨w0, W0, y0, t1⟩ := cons_of t0
    obtain ⟨w1, W1, y1, t2⟩ := cons_of t1
    obtain ⟨w2, W2, y2, t3⟩ := cons_of t2
    obtain rfl := List.length_eq_zero_iff.1 t3
    subst y2 y1 y0
    have l : tk 8 [w0, w1, w2] = (fun (b0 b1 n2 d2 : Bool) => (bif b0 then some ((ci 8) : C8) else none).bind fun c0 => (bif b1 then some (c0 : C8) else none).bind fun c1 => (bif n2 && d2 then some ({ c1 with vlan := numI w2 } : C8) else none).bind fun c2 => some c2) (w0.data.toList == [110, 111]) (w1.data.toList == [118, 108, 97, 110]) (numOk w2) (decide (numI w2 ≤ 65535)) := by kernel_rfl
    have r : rf 8 [w0, w1, w2] = (fun (b0 b1 n2 d2 : Bool) => bif (((true && b0) && b1) && n2) then bif d2 then some (⟨1, 8, 0, 0, numI w2, 0, 0, 0⟩ : C8) else none else none) (w0.data.toList == [110, 111]) (w1.data.toList == [118, 108, 97, 110]) (numOk w2) (decide (numI w2 ≤ 65535)) := by kernel_rfl
    rw [l, r]
    generalize (w0.data.toList == [110, 111]) = b0
    generalize (w1.data.toList == [118, 108, 97, 110]) = b1
    generalize (numOk w2) = n2
    generalize (decide (numI w2 ≤ 65535)) = d2
    cases b0 <;> cases b1 <;> cases n2 <;> cases d2 <;> rfl
  · unfold tk rf
    rw [show ((Vs 8).length == W.length) = false by rw [hv]; exact beq_false_of_ne (fun e => h e.symm), show ((Sh 8).length == W.length) = false by rw [hs]; exact beq_false_of_ne (fun e => h e.symm)]; rfl
theorem same_9 (W : List ByteArray) : tk 9 W = rf 9 W := by
  have hv : (Vs 9).length = 6 := by kernel_rfl
  have hs : (Sh 9).length = 6 := by kernel_rfl
  by_cases h : W.length = 6
  · have t0 := h
    obtain ⟨w0, W0, y0, t1⟩ := cons_of t0
    obtain ⟨w1, W1, y1, t2⟩ := cons_of t1
    obtain ⟨w2, W2, y2, t3⟩ := cons_of t2
    obtain ⟨w3, W3, y3, t4⟩ := cons_of t3
    obtain ⟨w4, W4, y4, t5⟩ := cons_of t4
    obtain ⟨w5, W5, y5, t6⟩ := cons_of t5
    obtain rfl := List.length_eq_zero_iff.1 t6
    subst y5 y4 y3 y2 y1 y0
    have l : tk 9 [w0, w1, w2, w3, w4, w5] = (fun (b0 b1 b2 n3 b4 n5 d3 d5 : Bool) => (bif b0 then some ((ci 9) : C8) else none).bind fun c0 => (bif b1 then some ({ c0 with mac := (macP w1).1 } : C8) else none).bind fun c1 => (bif b2 then some (c1 : C8) else none).bind fun c2 => (bif n3 && d3 then some ({ c2 with vlan := numI w3 } : C8) else none).bind fun c3 => (bif b4 then some (c3 : C8) else none).bind fun c4 => (bif n5 && d5 then some ({ c4 with port := numI w5 } : C8) else none).bind fun c5 => some c5) (w0.data.toList == [115, 116, 97, 116, 105, 99]) ((macP w1).2 == 0) (w2.data.toList == [118, 108, 97, 110]) (numOk w3) (w4.data.toList == [112, 111, 114, 116]) (numOk w5) (decide (numI w3 ≤ 65535)) (decide (numI w5 ≤ 255)) := by kernel_rfl
    have r : rf 9 [w0, w1, w2, w3, w4, w5] = (fun (b0 b1 b2 n3 b4 n5 d3 d5 : Bool) => bif ((((((true && b0) && b1) && b2) && n3) && b4) && n5) then bif d5 then bif d3 then some (⟨1, 9, numI w5, 0, numI w3, 0, 0, (macP w1).1⟩ : C8) else none else none else none) (w0.data.toList == [115, 116, 97, 116, 105, 99]) ((macP w1).2 == 0) (w2.data.toList == [118, 108, 97, 110]) (numOk w3) (w4.data.toList == [112, 111, 114, 116]) (numOk w5) (decide (numI w3 ≤ 65535)) (decide (numI w5 ≤ 255)) := by kernel_rfl
    rw [l, r]
    generalize (w0.data.toList == [115, 116, 97, 116, 105, 99]) = b0
    generalize ((macP w1).2 == 0) = b1
    generalize (w2.data.toList == [118, 108, 97, 110]) = b2
    generalize (numOk w3) = n3
    generalize (w4.data.toList == [112, 111, 114, 116]) = b4
    generalize (numOk w5) = n5
    generalize (decide (numI w3 ≤ 65535)) = d3
    generalize (decide (numI w5 ≤ 255)) = d5
    cases b0 <;> cases b1 <;> cases b2 <;> cases n3 <;> cases b4 <;> cases n5 <;> cases d3 <;> cases d5 <;> rfl
  · unfold tk rf
    rw [show ((Vs 9).length == W.length) = false by rw [hv]; exact beq_false_of_ne (fun e => h e.symm), show ((Sh 9).length == W.length) = false by rw [hs]; exact beq_false_of_ne (fun e => h e.symm)]; rfl
theorem same_10 (W : List ByteArray) : tk 10 W = rf 10 W := by
  have hv : (Vs 10).length = 5 := by kernel_rfl
  have hs : (Sh 10).length = 5 := by kernel_rfl
  by_cases h : W.length = 5
  · have t0 := h
    obtain ⟨w0, W0, y0, t1⟩ := cons_of t0
    obtain ⟨w1, W1, y1, t2⟩ := cons_of t1
    obtain ⟨w2, W2, y2, t3⟩ := cons_of t2
    obtain ⟨w3, W3, y3, t4⟩ := cons_of t3
    obtain ⟨w4, W4, y4, t5⟩ := cons_of t4
    obtain rfl := List.length_eq_zero_iff.1 t5
    subst y4 y3 y2 y1 y0
    have l : tk 10 [w0, w1, w2, w3, w4] = (fun (b0 b1 b2 b3 n4 d4 : Bool) => (bif b0 then some ((ci 10) : C8) else none).bind fun c0 => (bif b1 then some (c0 : C8) else none).bind fun c1 => (bif b2 then some ({ c1 with mac := (macP w2).1 } : C8) else none).bind fun c2 => (bif b3 then some (c2 : C8) else none).bind fun c3 => (bif n4 && d4 then some ({ c3 with vlan := numI w4 } : C8) else none).bind fun c4 => some c4) (w0.data.toList == [110, 111]) (w1.data.toList == [115, 116, 97, 116, 105, 99]) ((macP w2).2 == 0) (w3.data.toList == [118, 108, 97, 110]) (numOk w4) (decide (numI w4 ≤ 65535)) := by kernel_rfl
    have r : rf 10 [w0, w1, w2, w3, w4] = (fun (b0 b1 b2 b3 n4 d4 : Bool) => bif (((((true && b0) && b1) && b2) && b3) && n4) then bif d4 then some (⟨1, 10, 0, 0, numI w4, 0, 0, (macP w2).1⟩ : C8) else none else none) (w0.data.toList == [110, 111]) (w1.data.toList == [115, 116, 97, 116, 105, 99]) ((macP w2).2 == 0) (w3.data.toList == [118, 108, 97, 110]) (numOk w4) (decide (numI w4 ≤ 65535)) := by kernel_rfl
    rw [l, r]
    generalize (w0.data.toList == [110, 111]) = b0
    generalize (w1.data.toList == [115, 116, 97, 116, 105, 99]) = b1
    generalize ((macP w2).2 == 0) = b2
    generalize (w3.data.toList == [118, 108, 97, 110]) = b3
    generalize (numOk w4) = n4
    generalize (decide (numI w4 ≤ 65535)) = d4
    cases b0 <;> cases b1 <;> cases b2 <;> cases b3 <;> cases n4 <;> cases d4 <;> rfl
  · unfold tk rf
    rw [show ((Vs 10).length == W.length) = false by rw [hv]; exact beq_false_of_ne (fun e => h e.symm), show ((Sh 10).length == W.length) = false by rw [hs]; exact beq_false_of_ne (fun e => h e.symm)]; rfl
theorem same_11 (W : List ByteArray) : tk 11 W = rf 11 W := by
  have hv : (Vs 11).length = 1 := by kernel_rfl
  have hs : (Sh 11).length = 1 := by kernel_rfl
  by_cases h : W.length = 1
  · have t0 := h
    obtain ⟨w0, W0, y0, t1⟩ := cons_of t0
    obtain rfl := List.length_eq_zero_iff.1 t1
    subst y0
    have l : tk 11 [w0] = (fun (b0 : Bool) => (bif b0 then some ((ci 11) : C8) else none).bind fun c0 => some c0) (w0.data.toList == [99, 111, 109, 109, 105, 116]) := by kernel_rfl
    have r : rf 11 [w0] = (fun (b0 : Bool) => bif (true && b0) then some (⟨2, 0, 0, 0, 0, 0, 0, 0⟩ : C8) else none) (w0.data.toList == [99, 111, 109, 109, 105, 116]) := by kernel_rfl
    rw [l, r]
    generalize (w0.data.toList == [99, 111, 109, 109, 105, 116]) = b0
    cases b0 <;> rfl
  · unfold tk rf
    rw [show ((Vs 11).length == W.length) = false by rw [hv]; exact beq_false_of_ne (fun e => h e.symm), show ((Sh 11).length == W.length) = false by rw [hs]; exact beq_false_of_ne (fun e => h e.symm)]; rfl
theorem same_12 (W : List ByteArray) : tk 12 W = rf 12 W := by
  have hv : (Vs 12).length = 1 := by kernel_rfl
  have hs : (Sh 12).length = 1 := by kernel_rfl
  by_cases h : W.length = 1
  · have t0 := h
    obtain ⟨w0, W0, y0, t1⟩ := cons_of t0
    obtain rfl := List.length_eq_zero_iff.1 t1
    subst y0
    have l : tk 12 [w0] = (fun (b0 : Bool) => (bif b0 then some ((ci 12) : C8) else none).bind fun c0 => some c0) (w0.data.toList == [114, 111, 108, 108, 98, 97, 99, 107]) := by kernel_rfl
    have r : rf 12 [w0] = (fun (b0 : Bool) => bif (true && b0) then some (⟨3, 0, 0, 0, 0, 0, 0, 0⟩ : C8) else none) (w0.data.toList == [114, 111, 108, 108, 98, 97, 99, 107]) := by kernel_rfl
    rw [l, r]
    generalize (w0.data.toList == [114, 111, 108, 108, 98, 97, 99, 107]) = b0
    cases b0 <;> rfl
  · unfold tk rf
    rw [show ((Vs 12).length == W.length) = false by rw [hv]; exact beq_false_of_ne (fun e => h e.symm), show ((Sh 12).length == W.length) = false by rw [hs]; exact beq_false_of_ne (fun e => h e.symm)]; rfl
theorem same_13 (W : List ByteArray) : tk 13 W = rf 13 W := by
  have hv : (Vs 13).length = 2 := by kernel_rfl
  have hs : (Sh 13).length = 2 := by kernel_rfl
  by_cases h : W.length = 2
  · have t0 := h
    obtain ⟨w0, W0, y0, t1⟩ := cons_of t0
    obtain ⟨w1, W1, y1, t2⟩ := cons_of t1
    obtain rfl := List.length_eq_zero_iff.1 t2
    subst y1 y0
    have l : tk 13 [w0, w1] = (fun (b0 b1 : Bool) => (bif b0 then some ((ci 13) : C8) else none).bind fun c0 => (bif b1 then some (c0 : C8) else none).bind fun c1 => some c1) (w0.data.toList == [115, 104, 111, 119]) (w1.data.toList == [99, 111, 110, 102, 105, 103]) := by kernel_rfl
    have r : rf 13 [w0, w1] = (fun (b0 b1 : Bool) => bif ((true && b0) && b1) then some (⟨4, 0, 0, 0, 0, 0, 0, 0⟩ : C8) else none) (w0.data.toList == [115, 104, 111, 119]) (w1.data.toList == [99, 111, 110, 102, 105, 103]) := by kernel_rfl
    rw [l, r]
    generalize (w0.data.toList == [115, 104, 111, 119]) = b0
    generalize (w1.data.toList == [99, 111, 110, 102, 105, 103]) = b1
    cases b0 <;> cases b1 <;> rfl
  · unfold tk rf
    rw [show ((Vs 13).length == W.length) = false by rw [hv]; exact beq_false_of_ne (fun e => h e.symm), show ((Sh 13).length == W.length) = false by rw [hs]; exact beq_false_of_ne (fun e => h e.symm)]; rfl
theorem same_14 (W : List ByteArray) : tk 14 W = rf 14 W := by
  have hv : (Vs 14).length = 2 := by kernel_rfl
  have hs : (Sh 14).length = 2 := by kernel_rfl
  by_cases h : W.length = 2
  · have t0 := h
    obtain ⟨w0, W0, y0, t1⟩ := cons_of t0
    obtain ⟨w1, W1, y1, t2⟩ := cons_of t1
    obtain rfl := List.length_eq_zero_iff.1 t2
    subst y1 y0
    have l : tk 14 [w0, w1] = (fun (b0 b1 : Bool) => (bif b0 then some ((ci 14) : C8) else none).bind fun c0 => (bif b1 then some (c0 : C8) else none).bind fun c1 => some c1) (w0.data.toList == [115, 104, 111, 119]) (w1.data.toList == [112, 111, 114, 116, 115]) := by kernel_rfl
    have r : rf 14 [w0, w1] = (fun (b0 b1 : Bool) => bif ((true && b0) && b1) then some (⟨5, 0, 0, 0, 0, 0, 0, 0⟩ : C8) else none) (w0.data.toList == [115, 104, 111, 119]) (w1.data.toList == [112, 111, 114, 116, 115]) := by kernel_rfl
    rw [l, r]
    generalize (w0.data.toList == [115, 104, 111, 119]) = b0
    generalize (w1.data.toList == [112, 111, 114, 116, 115]) = b1
    cases b0 <;> cases b1 <;> rfl
  · unfold tk rf
    rw [show ((Vs 14).length == W.length) = false by rw [hv]; exact beq_false_of_ne (fun e => h e.symm), show ((Sh 14).length == W.length) = false by rw [hs]; exact beq_false_of_ne (fun e => h e.symm)]; rfl
theorem same_15 (W : List ByteArray) : tk 15 W = rf 15 W := by
  have hv : (Vs 15).length = 2 := by kernel_rfl
  have hs : (Sh 15).length = 2 := by kernel_rfl
  by_cases h : W.length = 2
  · have t0 := h
    obtain ⟨w0, W0, y0, t1⟩ := cons_of t0
    obtain ⟨w1, W1, y1, t2⟩ := cons_of t1
    obtain rfl := List.length_eq_zero_iff.1 t2
    subst y1 y0
    have l : tk 15 [w0, w1] = (fun (b0 b1 : Bool) => (bif b0 then some ((ci 15) : C8) else none).bind fun c0 => (bif b1 then some (c0 : C8) else none).bind fun c1 => some c1) (w0.data.toList == [115, 104, 111, 119]) (w1.data.toList == [116, 97, 98, 108, 101]) := by kernel_rfl
    have r : rf 15 [w0, w1] = (fun (b0 b1 : Bool) => bif ((true && b0) && b1) then some (⟨6, 0, 0, 0, 0, 0, 0, 0⟩ : C8) else none) (w0.data.toList == [115, 104, 111, 119]) (w1.data.toList == [116, 97, 98, 108, 101]) := by kernel_rfl
    rw [l, r]
    generalize (w0.data.toList == [115, 104, 111, 119]) = b0
    generalize (w1.data.toList == [116, 97, 98, 108, 101]) = b1
    cases b0 <;> cases b1 <;> rfl
  · unfold tk rf
    rw [show ((Vs 15).length == W.length) = false by rw [hv]; exact beq_false_of_ne (fun e => h e.symm), show ((Sh 15).length == W.length) = false by rw [hs]; exact beq_false_of_ne (fun e => h e.symm)]; rfl
theorem same (i : Nat) (hi : i < 16) (W : List ByteArray) : tk i W = rf i W := by
  match i, hi with
  | 0, _ => exact same_0 W
  | 1, _ => exact same_1 W
  | 2, _ => exact same_2 W
  | 3, _ => exact same_3 W
  | 4, _ => exact same_4 W
  | 5, _ => exact same_5 W
  | 6, _ => exact same_6 W
  | 7, _ => exact same_7 W
  | 8, _ => exact same_8 W
  | 9, _ => exact same_9 W
  | 10, _ => exact same_10 W
  | 11, _ => exact same_11 W
  | 12, _ => exact same_12 W
  | 13, _ => exact same_13 W
  | 14, _ => exact same_14 W
  | 15, _ => exact same_15 W
  | j + 16, hj => omega
theorem lineR (s : ByteArray) (hs : s.size ≤ 200) (α : Type) (k0 : Option α) (k1 : Int → Int → Int → Int → Int → Int → Int → Int → Option α) (k2 : Option α) : ref22_Line s k0 k1 k2 = match find (WB s) with
      | none => k2
      | some c => kC k1 c := by
  obtain ⟨nl, n, f, h1, h2⟩ := cutR s (by omega) (fun _ _ => .val undef)
  obtain ⟨w1, w2⟩ := WB_small hs
  have hW : TB n f (WB s) := TB.of h1
  have e : find (WB s) = first (fun j => rf j (WB s)) 0 16 := first_congr 16 0 (fun j _ h => same j (by omega) _)
  unfold ref22_Line ref22_Line_T
  rw [dec_f (show ¬ (s.size : Int) > 200 by omega), cond_false, h2, e]
  exact lineR_loop hW (by rw [← hW.1]; exact w1) w2 nl α (fun r_5 r_6 r_7 r_8 r_9 r_10 r_11 r_12 => k1 r_5 r_6 r_7 r_8 r_9 r_10 r_11 r_12) k2 16 0 18446744073709551616 (by omega) (by omega)
theorem lineR_long (s : ByteArray) (hs : 200 < s.size) (α : Type) (k0 : Option α) (k1 : Int → Int → Int → Int → Int → Int → Int → Int → Option α) (k2 : Option α) : ref22_Line s k0 k1 k2 = k0 := by
  unfold ref22_Line ref22_Line_T
  rw [dec_t (show (s.size : Int) > 200 by omega), cond_true]
end Go.Proofs.YtijabmpcicddbaaDoor.ParseLines

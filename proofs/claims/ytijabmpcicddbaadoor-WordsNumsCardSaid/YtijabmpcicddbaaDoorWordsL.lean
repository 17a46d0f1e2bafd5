/- What the code of words comes to, loop by loop: plain texts and rows. -/
import Derived.Test.YtijabmpcicddbaaDoorWordsU
import Derived.Test.YtijabmpcicddbaaDoorVe35
set_option linter.unusedVariables false
set_option linter.unusedSimpArgs false
namespace Go.Proofs.YtijabmpcicddbaaDoor.Words
open Go.Ve
theorem bnd {n : Nat} (h : n ≤ 1000000) : Nat.ble ((n + 1) * 16) bound = true := ble_true (by unfold bound; omega)
/-! ### words.Cut -/
theorem cutP_loop (N : Nat) (row : Nat → Nat → PV) (L : List (List UInt8)) (hL : TL N row L) (hN : N ≤ 1000000) : ∀ (d i n : Nat) (nl : Bool) (f : Nat → Nat → PV) (A : List (List UInt8)) (fuel : Nat), i + d = N → TL n f A → n ≤ i → d < fuel →
    ∃ nl' n' f', TL n' f' (A ++ ne (L.drop i)) ∧ ∀ (α : Type) (k0 : Bool → Nat → (Nat → Nat → PV) → Option α), words_Cut_L0_l0 k0 fuel (N : Int) (i : Int) nl n f N row = k0 nl' n' f'
  | 0, i, n, nl, f, A, fuel + 1, hi, hA, hn, hf => by
    obtain rfl : i = N := by omega
    refine ⟨nl, n, f, ?_, fun α k0 => ?_⟩
    · rw [List.drop_eq_nil_of_le (by rw [hL.1]; exact Nat.le_refl _), ne_nil, List.append_nil]; exact hA
    · show words_Cut_L0_s0 _ k0 (i : Int) (i : Int) nl n f i row = _
      unfold words_Cut_L0_s0
      rw [dec_f (Int.lt_irrefl _), cond_false]
  | d + 1, i, n, nl, f, A, fuel + 1, hi, hA, hn, hf => by
    have hlt : i < L.length := by rw [hL.1]; omega
    have hd : L.drop i = L[i] :: L.drop (i + 1) := by rw [List.drop_eq_getElem_cons hlt]
    have hx := hL.2 i hlt
    have step : ∀ (α : Type) (k0 : Bool → Nat → (Nat → Nat → PV) → Option α), words_Cut_L0_l0 k0 (fuel + 1) (N : Int) (i : Int) nl n f N row = bif !(L[i]).isEmpty then words_Cut_L0_l0 k0 fuel (N : Int) ((i + 1 : Nat) : Int) (nl && false) (n + 1) (catf n f (rowOf 1 [.val (.string (textOf (row i 0)))])) N row else words_Cut_L0_l0 k0 fuel (N : Int) ((i + 1 : Nat) : Int) nl n f N row := by
      intro α k0
      show words_Cut_L0_s0 _ k0 (N : Int) (i : Int) nl n f N row = _
      unfold words_Cut_L0_s0
      rw [dec_t (show (i : Int) < (N : Int) by omega), inb_t (show (0 : Int) ≤ (i : Int) by omega) (show (i : Int) < (N : Int) by omega), cond_true, cond_true, Int.toNat_natCast, beq_nil, hx, bnd (by omega), cond_true, i64_id (by omega) (by omega)]
      rfl
    cases he : (L[i]).isEmpty with
    | true =>
      obtain ⟨nl', n', f', h1, h2⟩ := cutP_loop N row L hL hN d (i + 1) n nl f A fuel (by omega) hA (by omega) (by omega)
      refine ⟨nl', n', f', ?_, fun α k0 => ?_⟩
      · rw [hd, ne_cons, he, cond_true]; exact h1
      · rw [step, he]; exact h2 α k0
    | false =>
      have hs := hA.snoc (textOf (row i 0))
      rw [hx] at hs
      obtain ⟨nl', n', f', h1, h2⟩ := cutP_loop N row L hL hN d (i + 1) (n + 1) (nl && false) _ (A ++ [L[i]]) fuel (by omega) hs (by omega) (by omega)
      refine ⟨nl', n', f', ?_, fun α k0 => ?_⟩
      · rw [hd, ne_cons, he, cond_false]
        rw [List.append_assoc] at h1
        exact h1
      · rw [step, he]; exact h2 α k0
theorem cutP (s : ByteArray) (hs : s.size ≤ 900000) (g : Nat → Nat → PV) : ∃ nl n f, TL n f (words s.data.toList) ∧ ∀ (α : Type) (k0 : Bool → Nat → (Nat → Nat → PV) → Option α), words_Cut_L0 ((splitN s ⟨#[32]⟩ : Nat) : Int) g (splitN s ⟨#[32]⟩) (splitRow s ⟨#[32]⟩) k0 = k0 nl n f := by
  have hN := splitN_le s
  obtain ⟨nl, n, f, h1, h2⟩ := cutP_loop (splitN s ⟨#[32]⟩) (splitRow s ⟨#[32]⟩) _ (TL.split s ⟨#[32]⟩) (by omega) (splitN s ⟨#[32]⟩) 0 0 true g [] 18446744073709551616 (by omega) (TL.nil g) (Nat.le_refl 0) (by omega)
  refine ⟨nl, n, f, ?_, fun α k0 => h2 α k0⟩
  rw [List.nil_append, List.drop_zero, ne_split] at h1
  exact h1
/-! ### the reference's Cut -/
theorem cutR_loop (s : ByteArray) (hs : s.size ≤ 900000) : ∀ (d i fr n : Nat) (nl : Bool) (f : Nat → Nat → PV) (A : List (List UInt8)) (fuel : Nat), i + d = s.size + 1 → fr ≤ i → TL n f A → n ≤ i → d < fuel →
    ∃ nl' n' f', TL n' f' (A ++ (bif Nat.ble i s.size then cutW ((s.data.toList.take i).drop fr) (s.data.toList.drop i) else [])) ∧ ∀ (α : Type) (k0 : Bool → Nat → (Nat → Nat → PV) → Option α), ref21_Cut_L0_l0 k0 fuel s (fr : Int) (i : Int) nl n f = k0 nl' n' f'
  | 0, i, fr, n, nl, f, A, fuel + 1, hi, hfr, hA, hn, hf => by
    have hb : Nat.ble i s.size = false := by
      cases h : Nat.ble i s.size with
      | false => rfl
      | true => have := Nat.le_of_ble_eq_true h; omega
    refine ⟨nl, n, f, by rw [hb, cond_false, List.append_nil]; exact hA, fun α k0 => ?_⟩
    show ref21_Cut_L0_s0 _ k0 s (fr : Int) (i : Int) nl n f = _
    unfold ref21_Cut_L0_s0
    rw [dec_f (show ¬ (i : Int) ≤ (s.size : Int) by omega), cond_false]
  | d + 1, i, fr, n, nl, f, A, fuel + 1, hi, hfr, hA, hn, hf => by
    have hle : i ≤ s.size := by omega
    rw [ble_true hle, cond_true]
    have hlen : s.data.toList.length = s.size := rfl
    have app : ∀ (h : fr < i), TL (n + 1) (e5 n f s (fr : Int) (i : Int)) (A ++ [(s.data.toList.take i).drop fr]) := by
      intro h
      have := hA.snoc (s.extract fr (fr + (i - fr)))
      rw [bl_extract, show fr + (i - fr) = i by omega] at this
      unfold e5
      rw [Int.toNat_natCast, Int.toNat_natCast, show fr + (i - fr) = i by omega]
      exact this
    have tests : fr < i → decide ((i : Int) > (fr : Int)) = true ∧ inb (i : Int) (s.size + 1) = true ∧ (decide (0 ≤ (fr : Int)) && decide ((fr : Int) ≤ (i : Int))) = true := fun h =>
      ⟨dec_t (by omega), inb_t (by omega) (by omega), by rw [dec_t (show (0 : Int) ≤ (fr : Int) by omega), dec_t (show (fr : Int) ≤ (i : Int) by omega)]; rfl⟩
    have ne_cur : fr < i → ne [(s.data.toList.take i).drop fr] = [(s.data.toList.take i).drop fr] := by
      intro h
      rw [ne_cons]
      have : ((s.data.toList.take i).drop fr).isEmpty = false := by
        rw [List.isEmpty_eq_false_iff]
        intro e
        have := congrArg List.length e
        simp only [List.length_drop, List.length_take, List.length_nil] at this
        omega
      rw [this]; rfl
    have ne_no : ¬ fr < i → ne [(s.data.toList.take i).drop fr] = [] := by
      intro h
      have : (s.data.toList.take i).drop fr = [] := List.drop_eq_nil_of_le (by simp only [List.length_take]; omega)
      rw [this]; rfl
    by_cases he : i = s.size
    · -- the end
      have hw : IntKind.i64.wrap ((i : Int) + 1) = ((i + 1 : Nat) : Int) := by rw [i64_id (by omega) (by omega)]; omega
      have hnil : s.data.toList.drop i = [] := List.drop_eq_nil_of_le (by omega)
      rw [hnil, cutW_end]
      by_cases hlt : fr < i
      · obtain ⟨t1, t2, t3⟩ := tests hlt
        obtain ⟨nl', n', f', h1, h2⟩ := cutR_loop s hs d (i + 1) (i + 1) (n + 1) (nl && false) _ _ fuel (by omega) (Nat.le_refl _) (app hlt) (by omega) (by omega)
        have hb : Nat.ble (i + 1) s.size = false := by
          cases h : Nat.ble (i + 1) s.size with
          | false => rfl
          | true => have := Nat.le_of_ble_eq_true h; omega
        rw [hb, cond_false, List.append_nil] at h1
        refine ⟨nl', n', f', by rw [ne_cur hlt]; exact h1, fun α k0 => ?_⟩
        show ref21_Cut_L0_s0 _ k0 s (fr : Int) (i : Int) nl n f = _
        unfold ref21_Cut_L0_s0
        rw [dec_t (show (i : Int) ≤ (s.size : Int) by omega), cond_true, show ((i : Int) == (s.size : Int)) = true by rw [he]; exact beq_self_eq_true _, cond_true, t1, cond_true, t2, cond_true, t3, cond_true, bnd (by omega), cond_true, hw]
        exact h2 α k0
      · obtain ⟨nl', n', f', h1, h2⟩ := cutR_loop s hs d (i + 1) (i + 1) n nl f A fuel (by omega) (Nat.le_refl _) hA (by omega) (by omega)
        have hb : Nat.ble (i + 1) s.size = false := by
          cases h : Nat.ble (i + 1) s.size with
          | false => rfl
          | true => have := Nat.le_of_ble_eq_true h; omega
        rw [hb, cond_false, List.append_nil] at h1
        refine ⟨nl', n', f', by rw [ne_no hlt, List.append_nil]; exact h1, fun α k0 => ?_⟩
        show ref21_Cut_L0_s0 _ k0 s (fr : Int) (i : Int) nl n f = _
        unfold ref21_Cut_L0_s0
        rw [dec_t (show (i : Int) ≤ (s.size : Int) by omega), cond_true, show ((i : Int) == (s.size : Int)) = true by rw [he]; exact beq_self_eq_true _, cond_true, dec_f (show ¬ (i : Int) > (fr : Int) by omega), cond_false, hw]
        exact h2 α k0
    · have hlt2 : i < s.data.toList.length := by omega
      have hw : IntKind.i64.wrap ((i : Int) + 1) = ((i + 1 : Nat) : Int) := by rw [i64_id (by omega) (by omega)]; omega
      have hd : s.data.toList.drop i = s.data.toList[i] :: s.data.toList.drop (i + 1) := by rw [List.drop_eq_getElem_cons hlt2]
      have hbt := bt_get s i hlt2
      have hb1 : Nat.ble (i + 1) s.size = true := ble_true (by omega)
      have hq : ((i : Int) == (s.size : Int)) = false := by
        have : (i : Int) ≠ (s.size : Int) := by omega
        simpa using this
      by_cases hc : s.data.toList[i] = 32
      · have hbt32 : (bt s (i : Int) == 32) = true := by rw [hbt, hc]; rfl
        have hcur : (s.data.toList.take (i + 1)).drop (i + 1) = [] := List.drop_eq_nil_of_le (by simp only [List.length_take]; omega)
        rw [hd, hc, cutW_blank]
        by_cases hlt : fr < i
        · obtain ⟨t1, t2, t3⟩ := tests hlt
          obtain ⟨nl', n', f', h1, h2⟩ := cutR_loop s hs d (i + 1) (i + 1) (n + 1) (nl && false) _ _ fuel (by omega) (Nat.le_refl _) (app hlt) (by omega) (by omega)
          rw [hb1, cond_true, hcur, List.append_assoc] at h1
          refine ⟨nl', n', f', by rw [ne_cur hlt]; exact h1, fun α k0 => ?_⟩
          show ref21_Cut_L0_s0 _ k0 s (fr : Int) (i : Int) nl n f = _
          unfold ref21_Cut_L0_s0
          rw [dec_t (show (i : Int) ≤ (s.size : Int) by omega), cond_true, hq, cond_false, inb_t (show (0 : Int) ≤ (i : Int) by omega) (show (i : Int) < (s.size : Int) by omega), cond_true, hbt32, cond_true, t1, cond_true, t2, cond_true, t3, cond_true, bnd (by omega), cond_true, hw]
          exact h2 α k0
        · obtain ⟨nl', n', f', h1, h2⟩ := cutR_loop s hs d (i + 1) (i + 1) n nl f A fuel (by omega) (Nat.le_refl _) hA (by omega) (by omega)
          rw [hb1, cond_true, hcur] at h1
          refine ⟨nl', n', f', by rw [ne_no hlt]; exact h1, fun α k0 => ?_⟩
          show ref21_Cut_L0_s0 _ k0 s (fr : Int) (i : Int) nl n f = _
          unfold ref21_Cut_L0_s0
          rw [dec_t (show (i : Int) ≤ (s.size : Int) by omega), cond_true, hq, cond_false, inb_t (show (0 : Int) ≤ (i : Int) by omega) (show (i : Int) < (s.size : Int) by omega), cond_true, hbt32, cond_true, dec_f (show ¬ (i : Int) > (fr : Int) by omega), cond_false, hw]
          exact h2 α k0
      · have hbt32 : (bt s (i : Int) == 32) = false := by
          rw [hbt]
          have : ((s.data.toList[i]).toNat : Int) ≠ 32 := fun e => hc (by
            have e2 : (s.data.toList[i]).toNat = 32 := by omega
            have := congrArg UInt8.ofNat e2
            simpa using this)
          simpa using this
        have hcb : (s.data.toList[i] == 32) = false := by simpa using hc
        have hcur : (s.data.toList.take (i + 1)).drop fr = (s.data.toList.take i).drop fr ++ [s.data.toList[i]] := by
          rw [List.take_succ_eq_append_getElem hlt2, List.drop_append_of_le_length (by simp only [List.length_take]; omega)]
        obtain ⟨nl', n', f', h1, h2⟩ := cutR_loop s hs d (i + 1) fr n nl f A fuel (by omega) (by omega) hA (by omega) (by omega)
        rw [hb1, cond_true, hcur] at h1
        refine ⟨nl', n', f', ?_, fun α k0 => ?_⟩
        · rw [hd]
          show TL n' f' (A ++ (bif s.data.toList[i] == 32 then _ else cutW ((s.data.toList.take i).drop fr ++ [s.data.toList[i]]) (s.data.toList.drop (i + 1))))
          rw [hcb, cond_false]
          exact h1
        · show ref21_Cut_L0_s0 _ k0 s (fr : Int) (i : Int) nl n f = _
          unfold ref21_Cut_L0_s0
          rw [dec_t (show (i : Int) ≤ (s.size : Int) by omega), cond_true, hq, cond_false, inb_t (show (0 : Int) ≤ (i : Int) by omega) (show (i : Int) < (s.size : Int) by omega), cond_true, hbt32, cond_false, hw]
          exact h2 α k0
theorem cutR (s : ByteArray) (hs : s.size ≤ 900000) (g : Nat → Nat → PV) : ∃ nl n f, TL n f (words s.data.toList) ∧ ∀ (α : Type) (k0 : Bool → Nat → (Nat → Nat → PV) → Option α), ref21_Cut_L0 s g k0 = k0 nl n f := by
  obtain ⟨nl, n, f, h1, h2⟩ := cutR_loop s hs (s.size + 1) 0 0 0 true g [] 18446744073709551616 (by omega) (Nat.le_refl 0) (TL.nil g) (Nat.le_refl 0) (by omega)
  refine ⟨nl, n, f, ?_, fun α k0 => h2 α k0⟩
  rw [ble_true (Nat.zero_le _), cond_true, List.nil_append] at h1
  exact h1
/-! ### texts compared -/
theorem texts_loop (n : Nat) (hn : n ≤ 1000000) (nl nl2 : Bool) (f g : Nat → Nat → PV) (L : List (List UInt8)) (hf : TL n f L) (hg : TL n g L) (α : Type) (k0 k1 : Option α) : ∀ (d i fuel : Nat), i + d = n → d < fuel → keep_Texts_L0_l0 k0 k1 fuel nl n f nl2 n g (i : Int) = k1
  | 0, i, fuel + 1, hi, hfu => by
    show keep_Texts_L0_s0 _ k0 k1 nl n f nl2 n g (i : Int) = _
    unfold keep_Texts_L0_s0
    rw [dec_f (show ¬ (i : Int) < (n : Int) by omega), cond_false]
  | d + 1, i, fuel + 1, hi, hfu => by
    have hlt : i < L.length := by rw [hf.1]; omega
    show keep_Texts_L0_s0 _ k0 k1 nl n f nl2 n g (i : Int) = _
    unfold keep_Texts_L0_s0
    rw [dec_t (show (i : Int) < (n : Int) by omega), cond_true, inb_t (show (0 : Int) ≤ (i : Int) by omega) (show (i : Int) < (n : Int) by omega), cond_true, cond_true, Int.toNat_natCast, beq_bl, hf.2 i hlt, hg.2 i hlt, beq_self_eq_true, Bool.not_true, cond_false, i64_id (by omega) (by omega)]
    exact texts_loop n hn nl nl2 f g L hf hg α k0 k1 d (i + 1) fuel (by omega) (by omega)
theorem texts {n m : Nat} {nl nl2 : Bool} {f g : Nat → Nat → PV} {L : List (List UInt8)} (hf : TL n f L) (hg : TL m g L) (hn : L.length ≤ 1000000) {α : Type} (k0 k1 : Option α) : keep_Texts nl n f nl2 m g k0 k1 = k1 := by
  obtain rfl : n = m := hf.1.symm.trans hg.1
  have hn' : n ≤ 1000000 := by rw [← hf.1]; exact hn
  unfold keep_Texts keep_Texts_T
  rw [show (((n : Nat) : Int) != (n : Int)) = false by simp, cond_false]
  exact texts_loop n hn' nl nl2 f g L hf hg α k0 k1 n 0 18446744073709551616 (by omega) (by omega)
/-! ### words.Join -/
theorem joinP_loop (N : Nat) (hN : N ≤ 1000000) (b : Bool) (row : Nat → Nat → PV) (L : List (List UInt8)) (hL : TL N row L) : ∀ (d i n : Nat) (nl : Bool) (f : Nat → Nat → PV) (A : List (List UInt8)) (fuel : Nat), i + d = N → TL n f A → n ≤ i → d < fuel →
    ∃ nl' n' f', TL n' f' (A ++ ne (L.drop i)) ∧ ∀ (α : Type) (k0 : Bool → Nat → (Nat → Nat → PV) → Option α), words_Join_L0_l0 k0 fuel b N row (N : Int) (i : Int) nl n f = k0 nl' n' f'
  | 0, i, n, nl, f, A, fuel + 1, hi, hA, hn, hf => by
    obtain rfl : i = N := by omega
    refine ⟨nl, n, f, ?_, fun α k0 => ?_⟩
    · rw [List.drop_eq_nil_of_le (by rw [hL.1]; exact Nat.le_refl _), ne_nil, List.append_nil]; exact hA
    · show words_Join_L0_s0 _ k0 b i row (i : Int) (i : Int) nl n f = _
      unfold words_Join_L0_s0
      rw [dec_f (Int.lt_irrefl _), cond_false]
  | d + 1, i, n, nl, f, A, fuel + 1, hi, hA, hn, hf => by
    have hlt : i < L.length := by rw [hL.1]; omega
    have hd : L.drop i = L[i] :: L.drop (i + 1) := by rw [List.drop_eq_getElem_cons hlt]
    have hx := hL.2 i hlt
    have step : ∀ (α : Type) (k0 : Bool → Nat → (Nat → Nat → PV) → Option α), words_Join_L0_l0 k0 (fuel + 1) b N row (N : Int) (i : Int) nl n f = bif !(L[i]).isEmpty then words_Join_L0_l0 k0 fuel b N row (N : Int) ((i + 1 : Nat) : Int) (nl && false) (n + 1) (catf n f (rowOf 1 [.val (.string (textOf (row i 0)))])) else words_Join_L0_l0 k0 fuel b N row (N : Int) ((i + 1 : Nat) : Int) nl n f := by
      intro α k0
      show words_Join_L0_s0 _ k0 b N row (N : Int) (i : Int) nl n f = _
      unfold words_Join_L0_s0
      rw [dec_t (show (i : Int) < (N : Int) by omega), inb_t (show (0 : Int) ≤ (i : Int) by omega) (show (i : Int) < (N : Int) by omega), cond_true, cond_true, Int.toNat_natCast, beq_nil, hx, bnd (by omega), cond_true, i64_id (by omega) (by omega)]
      rfl
    cases he : (L[i]).isEmpty with
    | true =>
      obtain ⟨nl', n', f', h1, h2⟩ := joinP_loop N hN b row L hL d (i + 1) n nl f A fuel (by omega) hA (by omega) (by omega)
      refine ⟨nl', n', f', ?_, fun α k0 => ?_⟩
      · rw [hd, ne_cons, he, cond_true]; exact h1
      · rw [step, he]; exact h2 α k0
    | false =>
      have hs := hA.snoc (textOf (row i 0))
      rw [hx] at hs
      obtain ⟨nl', n', f', h1, h2⟩ := joinP_loop N hN b row L hL d (i + 1) (n + 1) (nl && false) _ (A ++ [L[i]]) fuel (by omega) hs (by omega) (by omega)
      refine ⟨nl', n', f', ?_, fun α k0 => ?_⟩
      · rw [hd, ne_cons, he, cond_false]
        rw [List.append_assoc] at h1
        exact h1
      · rw [step, he]; exact h2 α k0
/-- parts that are put together: what strings.Join is handed -/
theorem joinP {N : Nat} {b : Bool} {row : Nat → Nat → PV} {L : List (List UInt8)} (hL : TL N row L) (hN : L.length ≤ 1000000) (hb : bulk L ≤ 140737488355328) (g : Nat → Nat → PV) : ∃ nl n f, joinOk n f ⟨#[32]⟩ = true ∧ joinS n f ⟨#[32]⟩ = ⟨(joinW (ne L)).toArray⟩ ∧
    ∀ (α : Type) (k0 : Bool → Nat → (Nat → Nat → PV) → Option α), words_Join_L0 b N row (N : Int) g k0 = k0 nl n f := by
  obtain ⟨nl, n, f, h1, h2⟩ := joinP_loop N (by rw [← hL.1]; exact hN) b row L hL N 0 0 true g [] 18446744073709551616 (by omega) (TL.nil g) (Nat.le_refl 0) (by have := hL.1; omega)
  rw [List.nil_append, List.drop_zero] at h1
  exact ⟨nl, n, f, joinOk_of h1 (Nat.le_trans (bulk_ne L) hb), joinS_eq h1, fun α k0 => h2 α k0⟩
/-! ### the reference's Join -/
def Good' (L : List (List UInt8)) : Prop := ∀ w ∈ L, w ≠ []
theorem joinW_app (A : List (List UInt8)) (x : List UInt8) : joinW (A ++ [x]) = bif A.isEmpty then x else joinW A ++ 32 :: x := by
  cases A with
  | nil => exact joinW_one x
  | cons y A => exact joinW_snoc (y :: A) x (by simp)
theorem joinW_empty {A : List (List UInt8)} (h : Good' A) : (joinW A).isEmpty = A.isEmpty := by
  match A, h with
  | [], _ => rfl
  | [x], h =>
    rw [joinW_one]
    have := h x (by simp)
    cases x with
    | nil => exact absurd rfl this
    | cons => rfl
  | x :: y :: A, h =>
    rw [joinW_two]
    cases x <;> rfl
theorem joinR_loop (N : Nat) (hN : N ≤ 1000000) (b : Bool) (row : Nat → Nat → PV) (L : List (List UInt8)) (hL : TL N row L) : ∀ (d i : Nat) (s : ByteArray) (A : List (List UInt8)) (fuel : Nat), i + d = N → s.data.toList = joinW A → Good' A → bulk (A ++ L.drop i) ≤ 4611686018427387000 → d < fuel →
    ∃ s' : ByteArray, s'.data.toList = joinW (A ++ ne (L.drop i)) ∧ ∀ (α : Type) (k0 : ByteArray → Option α), ref21_Join_L0_l0 k0 fuel b N row s (i : Int) = k0 s'
  | 0, i, s, A, fuel + 1, hi, hA, hg, hb, hf => by
    refine ⟨s, ?_, fun α k0 => ?_⟩
    · rw [List.drop_eq_nil_of_le (by rw [hL.1]; omega), ne_nil, List.append_nil]; exact hA
    · show ref21_Join_L0_s0 _ k0 b N row s (i : Int) = _
      unfold ref21_Join_L0_s0
      rw [dec_f (show ¬ (i : Int) < (N : Int) by omega), cond_false]
  | d + 1, i, s, A, fuel + 1, hi, hA, hg, hb, hf => by
    have hlt : i < L.length := by rw [hL.1]; omega
    have hd : L.drop i = L[i] :: L.drop (i + 1) := by rw [List.drop_eq_getElem_cons hlt]
    have hx := hL.2 i hlt
    have hw : IntKind.i64.wrap ((i : Int) + 1) = ((i + 1 : Nat) : Int) := by rw [i64_id (by omega) (by omega)]; omega
    have hin : inb (i : Int) N = true := inb_t (by omega) (by omega)
    have hdt : decide ((i : Int) < (N : Int)) = true := dec_t (by omega)
    have hsz : s.size = (joinW A).length := by rw [← hA]; rfl
    have hxz : (textOf (row i 0)).size = (L[i]).length := by rw [← hx]; rfl
    rw [hd, bulk_append] at hb
    simp only [bulk] at hb
    have hjl := joinW_len A
    cases he : (L[i]).isEmpty with
    | true =>
      obtain ⟨s', h1, h2⟩ := joinR_loop N hN b row L hL d (i + 1) s A fuel (by omega) hA hg (by rw [bulk_append]; omega) (by omega)
      refine ⟨s', ?_, fun α k0 => ?_⟩
      · rw [hd, ne_cons, he, cond_true]; exact h1
      · show ref21_Join_L0_s0 _ k0 b N row s (i : Int) = _
        unfold ref21_Join_L0_s0
        rw [hdt, cond_true, hin, cond_true, Int.toNat_natCast, beq_nil, hx, he, cond_true, hw]
        exact h2 α k0
    | false =>
      have hg2 : Good' (A ++ [L[i]]) := fun w hw => by
        rcases List.mem_append.1 hw with hw | hw
        · exact hg w hw
        · rw [List.mem_singleton.1 hw]
          exact List.isEmpty_eq_false_iff.1 he
      have hbb : bulk (A ++ [L[i]] ++ L.drop (i + 1)) ≤ 4611686018427387000 := by
        rw [bulk_append, bulk_append]
        simp only [bulk]
        omega
      cases hae : A.isEmpty with
      | true =>
        obtain rfl : A = [] := List.isEmpty_iff.1 hae
        obtain rfl : s = ⟨#[]⟩ := bl_inj hA
        have hs2 : ((⟨#[]⟩ : ByteArray) ++ textOf (row i 0)).data.toList = joinW ([] ++ [L[i]]) := by
          rw [bl_append, hx]
          show [] ++ L[i] = joinW [L[i]]
          rw [joinW_one]; rfl
        obtain ⟨s', h1, h2⟩ := joinR_loop N hN b row L hL d (i + 1) _ _ fuel (by omega) hs2 hg2 hbb (by omega)
        refine ⟨s', ?_, fun α k0 => ?_⟩
        · rw [hd, ne_cons, he, cond_false]
          rw [List.append_assoc] at h1
          exact h1
        · show ref21_Join_L0_s0 _ k0 b N row _ (i : Int) = _
          unfold ref21_Join_L0_s0
          rw [hdt, cond_true, hin, cond_true, Int.toNat_natCast, beq_nil, hx, he, cond_false]
          rw [show (!((⟨#[]⟩ : ByteArray).toList == (⟨#[]⟩ : ByteArray).toList)) = false by rw [beq_nil]; rfl, cond_false]
          rw [cond_true, ble_true (by rw [hxz]; show 0 + _ ≤ _; omega), cond_true, hw]
          exact h2 α k0
      | false =>
        have hs2 : ((s ++ ⟨#[32]⟩) ++ textOf (row i 0)).data.toList = joinW (A ++ [L[i]]) := by
          rw [bl_append, bl_append, hx, hA, joinW_app, hae, cond_false]
          simp
        obtain ⟨s', h1, h2⟩ := joinR_loop N hN b row L hL d (i + 1) _ _ fuel (by omega) hs2 hg2 hbb (by omega)
        refine ⟨s', ?_, fun α k0 => ?_⟩
        · rw [hd, ne_cons, he, cond_false]
          rw [List.append_assoc] at h1
          exact h1
        · have hse : s.data.toList.isEmpty = false := by rw [hA, joinW_empty hg, hae]
          have hsz2 : (s ++ (⟨#[32]⟩ : ByteArray)).size = s.size + 1 := by rw [ByteArray.size_append]; rfl
          show ref21_Join_L0_s0 _ k0 b N row s (i : Int) = _
          unfold ref21_Join_L0_s0
          rw [hdt, cond_true, hin, cond_true, Int.toNat_natCast, beq_nil, hx, he, cond_false, beq_nil, hse, Bool.not_false, cond_true]
          rw [ble_true (show s.size + (⟨#[32]⟩ : ByteArray).size ≤ 4611686018427387904 by show s.size + 1 ≤ _; omega), cond_true, cond_true, ble_true (by rw [hsz2, hxz]; omega), cond_true, hw]
          exact h2 α k0
theorem joinR {N : Nat} {b : Bool} {row : Nat → Nat → PV} {L : List (List UInt8)} (hL : TL N row L) (hN : L.length ≤ 1000000) (hb : bulk L ≤ 140737488355328) {α : Type} (k0 : ByteArray → Option α) : ref21_Join_L0 b N row k0 = k0 ⟨(joinW (ne L)).toArray⟩ := by
  obtain ⟨s', h1, h2⟩ := joinR_loop N (by rw [← hL.1]; exact hN) b row L hL N 0 ⟨#[]⟩ [] 18446744073709551616 (by omega) rfl (by intro w hw; cases hw) (by rw [List.nil_append, List.drop_zero]; omega) (by have := hL.1; omega)
  rw [List.nil_append, List.drop_zero] at h1
  have : s' = ⟨(joinW (ne L)).toArray⟩ := bl_inj h1
  subst this
  exact h2 α k0
/-! ### numbers as texts -/
theorem e3_eq (u : Nat) : e3 (u : Int) = ⟨#[UInt8.ofNat (48 + u % 10)]⟩ := by
  unfold e3
  have h1 : (u : Int).tmod 10 = ((u % 10 : Nat) : Int) := by rw [Int.tmod_eq_emod_of_nonneg (by omega)]; omega
  rw [h1, u8_id (n := ((u % 10 : Nat) : Int)) (by omega) (by omega), u8_id (by omega) (by omega)]
  have : (48 + ((u % 10 : Nat) : Int)) = ((48 + u % 10 : Nat) : Int) := by omega
  rw [this]
  show (⟨((List.range 1).map fun i => ubyte (rowOf 1 [.val (.int .u8 ((48 + u % 10 : Nat) : Int))] i 0)).toArray⟩ : ByteArray) = _
  show (⟨#[UInt8.ofNat (((48 + u % 10 : Nat) : Int)).toNat]⟩ : ByteArray) = _
  rw [Int.toNat_natCast]
theorem u64_div (u : Nat) (hu : u < 18446744073709551616) : IntKind.u64.wrap ((u : Int).tdiv 10) = ((u / 10 : Nat) : Int) := by
  have : (u : Int).tdiv 10 = ((u / 10 : Nat) : Int) := by rw [Int.tdiv_eq_ediv_of_nonneg (by omega)]; omega
  rw [this, u64_id (by omega) (by omega)]
theorem text_loop {α : Type} (k0 : Int → ByteArray → Option α) (a : Int) : ∀ (m u : Nat) (s : ByteArray) (fuel : Nat), u < 10 ^ (m + 1) → u < 18446744073709551616 → m < fuel → s.size + m ≤ 1000 → ref21_Text_L0_l0 k0 fuel a (u : Int) s = k0 a ⟨(Lib.decDigits u ++ s.data.toList).toArray⟩
  | m, u, s, 0, _, _, hf, _ => by omega
  | m, u, s, fuel + 1, hu, hu2, hf, hs => by
    have hsz : ((⟨#[UInt8.ofNat (48 + u % 10)]⟩ : ByteArray).size + s.size) = 1 + s.size := rfl
    have hap : (⟨#[UInt8.ofNat (48 + u % 10)]⟩ : ByteArray) ++ s = ⟨(UInt8.ofNat (48 + u % 10) :: s.data.toList).toArray⟩ := bl_inj (by rw [bl_append]; rfl)
    show ref21_Text_L0_s0 _ k0 a (u : Int) s = _
    unfold ref21_Text_L0_s0
    rw [e3_eq, hsz, ble_true (by omega), cond_true, u64_div u hu2, hap]
    by_cases h : u < 10
    · have h0 : u / 10 = 0 := by omega
      rw [h0, show (((0 : Nat) : Int) == 0) = true from rfl, cond_true, Lib.decDigits, dif_pos h, Nat.mod_eq_of_lt h]
      rfl
    · have h0 : (((u / 10 : Nat) : Int) == 0) = false := by
        have : ((u / 10 : Nat) : Int) ≠ 0 := by omega
        simpa using this
      rw [h0, cond_false]
      cases m with
      | zero => omega
      | succ m =>
        rw [text_loop k0 a m (u / 10) ⟨(UInt8.ofNat (48 + u % 10) :: s.data.toList).toArray⟩ fuel (by rw [Nat.pow_succ] at hu; omega) (by omega) (by omega) (by show (UInt8.ofNat (48 + u % 10) :: s.data.toList).length + m ≤ 1000; rw [List.length_cons, bl_size]; omega)]
        congr 1
        rw [Lib.decDigits.eq_1 u, dif_neg h]
        simp
theorem dec_len (m u : Nat) (h : u < 10 ^ (m + 1)) : (Lib.decDigits u).length ≤ m + 1 := by
  induction m generalizing u with
  | zero => rw [Lib.decDigits, dif_pos (by omega)]; exact Nat.le_refl _
  | succ m ih =>
    rw [Lib.decDigits]
    split
    · simp
    · have := ih (u / 10) (by rw [Nat.pow_succ] at h; omega)
      simp only [List.length_append, List.length_singleton]
      omega
theorem text_eq {a : Int} (h : okI a = true) {α : Type} (k0 : ByteArray → Option α) : ref21_Text a k0 = k0 (itoaS a) := by
  obtain ⟨h0, h1⟩ := okI_spec.1 h
  have hi := itoaS_eq h
  unfold ref21_Text ref21_Text_T
  by_cases hn : a < 0
  · have he : e2 a = ((a.natAbs : Nat) : Int) := by
      unfold e2
      rw [i64_id (n := a + 1) (by omega) (by omega), i64_id (n := 0 - (a + 1)) (by omega) (by omega), u64_id (n := 0 - (a + 1)) (by omega) (by omega), u64_id (by omega) (by omega)]
      omega
    have hl : ∀ (k : Int → ByteArray → Option α), ref21_Text_L0 a (e2 a) k = k a ⟨(Lib.decDigits a.natAbs).toArray⟩ := fun k => by
      rw [he]
      have := text_loop k a 19 a.natAbs ⟨#[]⟩ 18446744073709551616 (by omega) (by omega) (by omega) (by show 0 + 19 ≤ 1000; omega)
      rw [show Lib.decDigits a.natAbs ++ (⟨#[]⟩ : ByteArray).data.toList = Lib.decDigits a.natAbs from List.append_nil _] at this
      exact this
    have hlen := dec_len 19 a.natAbs (by omega)
    rw [dec_t hn, cond_true, hl, dec_t hn, cond_true, ble_true (show (⟨#[45]⟩ : ByteArray).size + (⟨(Lib.decDigits a.natAbs).toArray⟩ : ByteArray).size ≤ 4611686018427387904 by show 1 + (Lib.decDigits a.natAbs).length ≤ _; omega), cond_true, hi]
    congr 1
    refine bl_inj ?_
    rw [bl_append]
    unfold Lib.itoa
    rw [if_pos hn]
    rfl
  · have he : IntKind.u64.wrap a = ((a.toNat : Nat) : Int) := by rw [u64_id (by omega) (by omega)]; omega
    have hl : ∀ (k : Int → ByteArray → Option α), ref21_Text_L0 a (IntKind.u64.wrap a) k = k a ⟨(Lib.decDigits a.toNat).toArray⟩ := fun k => by
      rw [he]
      have := text_loop k a 19 a.toNat ⟨#[]⟩ 18446744073709551616 (by omega) (by omega) (by omega) (by show 0 + 19 ≤ 1000; omega)
      rw [show Lib.decDigits a.toNat ++ (⟨#[]⟩ : ByteArray).data.toList = Lib.decDigits a.toNat from List.append_nil _] at this
      exact this
    rw [dec_f hn, cond_false, hl, dec_f hn, cond_false, hi]
    unfold Lib.itoa
    rw [if_neg hn]
/-! ### the number of a text -/
def allD (l : List UInt8) : Bool := l.all fun c => decide (48 ≤ c.toNat) && decide (c.toNat ≤ 57)
def foldV (v : Nat) (l : List UInt8) : Nat := l.foldl (fun a c => a * 10 + (c.toNat - 48)) v
theorem numR_loop {α : Type} (s : ByteArray) (hs : s.size ≤ 10) (k0 : Option α) (k1 : ByteArray → Int → Option α) : ∀ (d i v fuel : Nat), i + d = s.size → v < 10 ^ i → d < fuel →
    ref21_Num_L0_l0 k0 k1 fuel s (v : Int) (i : Int) = bif allD (s.data.toList.drop i) then k1 s ((foldV v (s.data.toList.drop i) : Nat) : Int) else k0
  | 0, i, v, fuel + 1, hi, hv, hf => by
    show ref21_Num_L0_s0 _ k0 k1 s (v : Int) (i : Int) = _
    unfold ref21_Num_L0_s0
    rw [dec_f (show ¬ (i : Int) < (s.size : Int) by omega), cond_false, List.drop_eq_nil_of_le (by rw [bl_size]; omega)]
    rfl
  | d + 1, i, v, fuel + 1, hi, hv, hf => by
    have hlt : i < s.data.toList.length := by rw [bl_size]; omega
    have hd : s.data.toList.drop i = s.data.toList[i] :: s.data.toList.drop (i + 1) := by rw [List.drop_eq_getElem_cons hlt]
    have hin : inb (i : Int) s.size = true := inb_t (by omega) (by omega)
    have hv10 : v < 10000000000 := Nat.lt_of_lt_of_le hv (Nat.pow_le_pow_right (by omega) (show i ≤ 10 by omega))
    show ref21_Num_L0_s0 _ k0 k1 s (v : Int) (i : Int) = _
    unfold ref21_Num_L0_s0
    rw [dec_t (show (i : Int) < (s.size : Int) by omega), cond_true, hin, cond_true, bt_get s i hlt, hd]
    have hc := (s.data.toList[i]).toNat_lt
    generalize hcd : s.data.toList[i] = c at *
    have hall : ∀ r, allD (c :: r) = ((decide (48 ≤ c.toNat) && decide (c.toNat ≤ 57)) && allD r) := fun r => rfl
    rw [hall]
    by_cases h1 : (c.toNat : Int) < 48
    · rw [dec_t h1, cond_true, dec_f (show ¬ 48 ≤ c.toNat by omega)]
      rfl
    · rw [dec_f h1, cond_false, dec_t (show 48 ≤ c.toNat by omega), cond_true]
      by_cases h2 : (c.toNat : Int) > 57
      · rw [dec_t h2, cond_true, dec_f (show ¬ c.toNat ≤ 57 by omega)]
        rfl
      · have he : e1 (v : Int) s (i : Int) = ((v * 10 + (c.toNat - 48) : Nat) : Int) := by
          unfold e1
          rw [bt_get s i hlt, hcd, u8_id (by omega) (by omega), i64_id (n := (v : Int) * 10) (by omega) (by omega), i64_id (n := (c.toNat : Int) - 48) (by omega) (by omega), i64_id (by omega) (by omega)]
          omega
        rw [dec_f h2, cond_false, cond_true, dec_t (show c.toNat ≤ 57 by omega), he, i64_id (n := (i : Int) + 1) (by omega) (by omega)]
        have ih := numR_loop s hs k0 k1 d (i + 1) (v * 10 + (c.toNat - 48)) fuel (by omega) (by rw [Nat.pow_succ]; omega) (by omega)
        exact ih
theorem dec_all (u : Nat) : allD (Lib.decDigits u) = true := by
  induction u using Nat.strongRecOn with
  | _ u ih =>
    have hd : ∀ d, d < 10 → (decide (48 ≤ (UInt8.ofNat (48 + d)).toNat) && decide ((UInt8.ofNat (48 + d)).toNat ≤ 57)) = true := fun d h => by
      rw [u8_digit h, dec_t (by omega), dec_t (by omega)]; rfl
    rw [Lib.decDigits]
    split
    · rename_i h
      show ((decide (48 ≤ (UInt8.ofNat (48 + u)).toNat) && decide ((UInt8.ofNat (48 + u)).toNat ≤ 57)) && true) = true
      rw [hd u h]; rfl
    · rename_i h
      have h1 := ih (u / 10) (by omega)
      unfold allD at *
      rw [List.all_append, h1]
      show (true && ((decide (48 ≤ (UInt8.ofNat (48 + u % 10)).toNat) && decide ((UInt8.ofNat (48 + u % 10)).toNat ≤ 57)) && true)) = true
      rw [hd _ (by omega)]; rfl
theorem num_eq (s : ByteArray) {α : Type} (k0 : Option α) (k1 : Int → Option α) : ref21_Num s k0 k1 = bif numOk s then k1 ((numV s : Nat) : Int) else k0 := by
  unfold ref21_Num ref21_Num_T
  have no : (∀ u : Nat, u ≤ 4294967295 → s.data.toList = Lib.decDigits u → False) → numOk s = false := fun h => by
    cases hb : numOk s with
    | false => rfl
    | true => obtain ⟨u, hu, hd⟩ := numOk_spec.1 hb; exact (h u hu hd).elim
  rw [beq_nil]
  cases he : s.data.toList.isEmpty with
  | true =>
    rw [cond_true, no fun u _ hd => dec_ne u (by rw [← hd]; exact List.isEmpty_iff.1 he)]
    rfl
  | false =>
    rw [cond_false]
    by_cases h10 : (s.size : Int) > 10
    · rw [dec_t h10, cond_true, no fun u hu hd => by
        have := dec_len 9 u (by omega)
        rw [← hd, bl_size] at this
        omega]
      rfl
    · rw [dec_f h10, cond_false]
      have hl := numR_loop s (by omega) k0 (fun r_2 r_3 => bif decide (r_3 ≥ 4294967296) then k0 else ref21_Text r_3 (fun r_4 => bif !(r_4.toList == r_2.toList) then k0 else k1 r_3)) s.size 0 0 18446744073709551616 (by omega) (by omega) (by omega)
      rw [List.drop_zero] at hl
      refine Eq.trans hl ?_
      cases ha : allD s.data.toList with
      | false =>
        rw [cond_false, no fun u _ hd => by rw [hd, dec_all] at ha; cases ha]
        rfl
      | true =>
        rw [cond_true, show foldV 0 s.data.toList = numV s from rfl]
        by_cases hv : numV s ≤ 4294967295
        · rw [dec_f (show ¬ ((numV s : Nat) : Int) ≥ 4294967296 by omega), cond_false, text_eq (okI_spec.2 ⟨by omega, by omega⟩), beq_bl]
          have hi : (itoaS ((numV s : Nat) : Int)).data.toList = decL (numV s) := by
            unfold itoaS
            rw [dec_f (show ¬ ((numV s : Nat) : Int) < 0 by omega), cond_false]
            rfl
          rw [hi]
          unfold numOk
          rw [ble_true hv, Bool.true_and]
          cases decL (numV s) == s.data.toList <;> rfl
        · rw [dec_t (show ((numV s : Nat) : Int) ≥ 4294967296 by omega), cond_true]
          unfold numOk
          have : Nat.ble (numV s) 4294967295 = false := by
            cases h : Nat.ble (numV s) 4294967295 with
            | false => rfl
            | true => exact absurd (Nat.le_of_ble_eq_true h) hv
          rw [this]; rfl
/-! ### what the statements let in -/
theorem fair_loop {α : Type} (nl : Bool) (n : Nat) (f : Nat → Nat → PV) (hn : n ≤ 9223372036854775807) : ∀ (d i fuel : Nat), i + d = n →
    (∀ (k0 : Option α) (k1 : Bool → Nat → (Nat → Nat → PV) → Option α), d < fuel → law21_fair_L0_l0 k0 k1 fuel nl n f (i : Int) = bif (List.range d).all (fun j => decide ((textOf (f (i + j) 0)).size ≤ 300)) then k1 nl n f else k0)
  | 0, i, 0, hi => fun _ _ h => absurd h (by omega)
  | 0, i, fuel + 1, hi => fun k0 k1 _ => by
    show law21_fair_L0_s0 _ k0 k1 nl n f (i : Int) = _
    unfold law21_fair_L0_s0
    rw [dec_f (show ¬ (i : Int) < (n : Int) by omega), cond_false]
    rfl
  | d + 1, i, 0, hi => fun _ _ h => absurd h (by omega)
  | d + 1, i, fuel + 1, hi => fun k0 k1 hf => by
    show law21_fair_L0_s0 _ k0 k1 nl n f (i : Int) = _
    unfold law21_fair_L0_s0
    have hr : (List.range (d + 1)).all (fun j => decide ((textOf (f (i + j) 0)).size ≤ 300)) = (decide ((textOf (f i 0)).size ≤ 300) && (List.range d).all (fun j => decide ((textOf (f (i + 1 + j) 0)).size ≤ 300))) := by
      rw [List.range_succ_eq_map, List.all_cons, List.all_map, Nat.add_zero]
      congr 2
      funext j
      show decide ((textOf (f (i + (j + 1)) 0)).size ≤ 300) = _
      rw [show i + (j + 1) = i + 1 + j by omega]
    rw [dec_t (show (i : Int) < (n : Int) by omega), cond_true, inb_t (show (0 : Int) ≤ (i : Int) by omega) (show (i : Int) < (n : Int) by omega), cond_true, Int.toNat_natCast, hr]
    by_cases h : (textOf (f i 0)).size ≤ 300
    · rw [dec_f (show ¬ (((textOf (f i 0)).size : Nat) : Int) > 300 by omega), cond_false, dec_t h, Bool.true_and, i64_id (by omega) (by omega)]
      exact fair_loop nl n f hn d (i + 1) fuel (by omega) k0 k1 (by omega)
    · rw [dec_t (show (((textOf (f i 0)).size : Nat) : Int) > 300 by omega), cond_true, dec_f h, Bool.false_and, cond_false]
theorem fair {nl : Bool} {n : Nat} {f : Nat → Nat → PV} (hp : PvOk (.sl nl (.str .nil) 1 n f)) : ∃ b : Bool, (∀ (α : Type) (k0 : Bool → Option α), law21_fair nl n f k0 = k0 b) ∧ (b = true → n ≤ 50 ∧ ∀ j, j < n → (textOf (f j 0)).size ≤ 300) := by
  have hm := (pv_sl hp).1
  simp only [maxLen] at hm
  refine ⟨(List.range n).all (fun j => decide ((textOf (f (0 + j) 0)).size ≤ 300)) && decide ((n : Int) ≤ 50), fun α k0 => ?_, fun h => ?_⟩
  · unfold law21_fair law21_fair_T law21_fair_L0
    have := fair_loop nl n f (by omega) n 0 18446744073709551616 (by omega) (k0 false) (fun r_4 r_5 r_6 => k0 (decide ((r_5 : Int) ≤ 50))) (by omega)
    refine Eq.trans this ?_
    cases (List.range n).all (fun j => decide ((textOf (f (0 + j) 0)).size ≤ 300)) <;> rfl
  · rw [Bool.and_eq_true, List.all_eq_true] at h
    refine ⟨by have := of_decide_eq_true h.2; omega, fun j hj => ?_⟩
    have := of_decide_eq_true (h.1 j (List.mem_range.2 hj))
    rwa [Nat.zero_add] at this
end Go.Proofs.YtijabmpcicddbaaDoor.Words

/- Lemmas for ParseTexts: what its functions come to. -/
import Derived.Test.YtijabmpcicddbaaDoorParseTextsU
import Derived.Test.YtijabmpcicddbaaDoorVe35
set_option linter.unusedVariables false
set_option linter.unusedSimpArgs false
set_option maxHeartbeats 1000000
namespace Go.Proofs.YtijabmpcicddbaaDoor.ParseTexts
open Go.Ve
theorem bnd {n : Nat} (h : n ≤ 1000000) : Nat.ble ((n + 1) * 16) bound = true := ble_true (by unfold bound; omega)
theorem cutP_loop (N : Nat) (row : Nat → Nat → PV) (L : List (List UInt8)) (hL : TL N row L) (hN : N ≤ 1000000) : ∀ (d i n : Nat) (nl : Bool) (f : Nat → Nat → PV) (A : List (List UInt8)) (fuel : Nat), i + d = N → TL n f A → n ≤ i → d < fuel →
    ∃ nl' n' f', TL n' f' (A ++ ne (L.drop i)) ∧ ∀ (α : Type) (k0 : Bool → Nat → (Nat → Nat → PV) → Option α), words_Cut_L0_l0 k0 fuel (N : Int) (i : Int) nl n f N row = k0 nl' n' f'
  | 0, i, n, nl, f, A, fuel + 1, hi, hA, hn, hf => by
    obtain rfl : i = N := by omega
    refine ⟨nl, n, f, ?_, fun α k0 => ?_⟩
    · rw [List.drop_eq_nil_of_le (by rw [hL.1]; exact Nat.le_refl _), ne_nil, List.append_nil]; exact hA
    · show words_Cut_L0_s0 _ k0 (i : Int) (i : Int) nl n f i row = _
      unfold words_Cut_L0_s0
      rw [dec_f (Int.lt_irrefl _), cond_false]
  | d + 1, i, n, nl, f, A, fuel + 1, hi, hA, hn, hf => by
    have hlt : i < L.length := by rw [hL.1]; omega
    have hd : L.drop i = L[i] :: L.drop (i + 1) := by rw [List.drop_eq_getElem_cons hlt]
    have hx := hL.2 i hlt
    have step : ∀ (α : Type) (k0 : Bool → Nat → (Nat → Nat → PV) → Option α), words_Cut_L0_l0 k0 (fuel + 1) (N : Int) (i : Int) nl n f N row = bif !(L[i]).isEmpty then words_Cut_L0_l0 k0 fuel (N : Int) ((i + 1 : Nat) : Int) (nl && false) (n + 1) (catf n f (rowOf 1 [.val (.string (textOf (row i 0)))])) N row else words_Cut_L0_l0 k0 fuel (N : Int) ((i + 1 : Nat) : Int) nl n f N row := by
      intro α k0
      show words_Cut_L0_s0 _ k0 (N : Int) (i : Int) nl n f N row = _
      unfold words_Cut_L0_s0
      rw [dec_t (show (i : Int) < (N : Int) by omega), inb_t (show (0 : Int) ≤ (i : Int) by omega) (show (i : Int) < (N : Int) by omega), cond_true, cond_true, Int.toNat_natCast, beq_nil, hx, bnd (by omega), cond_true, i64_id (by omega) (by omega)]
      rfl
    cases he : (L[i]).isEmpty with
    | true =>
      obtain ⟨nl', n', f', h1, h2⟩ := cutP_loop N row L hL hN d (i + 1) n nl f A fuel (by omega) hA (by omega) (by omega)
      refine ⟨nl', n', f', ?_, fun α k0 => ?_⟩
      · rw [hd, ne_cons, he, cond_true]; exact h1
      · rw [step, he]; exact h2 α k0
    | false =>
      have hs := hA.snoc (textOf (row i 0))
      rw [hx] at hs
      obtain ⟨nl', n', f', h1, h2⟩ := cutP_loop N row L hL hN d (i + 1) (n + 1) (nl && false) _ (A ++ [L[i]]) fuel (by omega) hs (by omega) (by omega)
      refine ⟨nl', n', f', ?_, fun α k0 => ?_⟩
      · rw [hd, ne_cons, he, cond_false]
        rw [List.append_assoc] at h1
        exact h1
      · rw [step, he]; exact h2 α k0
theorem cutP (s : ByteArray) (hs : s.size ≤ 900000) (g : Nat → Nat → PV) : ∃ nl n f, TL n f (words s.data.toList) ∧ ∀ (α : Type) (k0 : Bool → Nat → (Nat → Nat → PV) → Option α), words_Cut_L0 ((splitN s ⟨#[32]⟩ : Nat) : Int) g (splitN s ⟨#[32]⟩) (splitRow s ⟨#[32]⟩) k0 = k0 nl n f := by
  have hN := splitN_le s
  obtain ⟨nl, n, f, h1, h2⟩ := cutP_loop (splitN s ⟨#[32]⟩) (splitRow s ⟨#[32]⟩) _ (TL.split s ⟨#[32]⟩) (by omega) (splitN s ⟨#[32]⟩) 0 0 true g [] 18446744073709551616 (by omega) (TL.nil g) (Nat.le_refl 0) (by omega)
  refine ⟨nl, n, f, ?_, fun α k0 => h2 α k0⟩
  rw [List.nil_append, List.drop_zero, ne_split] at h1
  exact h1
theorem cutR_loop (s : ByteArray) (hs : s.size ≤ 900000) : ∀ (d i fr n : Nat) (nl : Bool) (f : Nat → Nat → PV) (A : List (List UInt8)) (fuel : Nat), i + d = s.size + 1 → fr ≤ i → TL n f A → n ≤ i → d < fuel →
    ∃ nl' n' f', TL n' f' (A ++ (bif Nat.ble i s.size then cutW ((s.data.toList.take i).drop fr) (s.data.toList.drop i) else [])) ∧ ∀ (α : Type) (k0 : Bool → Nat → (Nat → Nat → PV) → Option α), ref21_Cut_L0_l0 k0 fuel s (fr : Int) (i : Int) nl n f = k0 nl' n' f'
  | 0, i, fr, n, nl, f, A, fuel + 1, hi, hfr, hA, hn, hf => by
    have hb : Nat.ble i s.size = false := by
      cases h : Nat.ble i s.size with
      | false => rfl
      | true => have := Nat.le_of_ble_eq_true h; omega
    refine ⟨nl, n, f, by rw [hb, cond_false, List.append_nil]; exact hA, fun α k0 => ?_⟩
    show ref21_Cut_L0_s0 _ k0 s (fr : Int) (i : Int) nl n f = _
    unfold ref21_Cut_L0_s0
    rw [dec_f (show ¬ (i : Int) ≤ (s.size : Int) by omega), cond_false]
  | d + 1, i, fr, n, nl, f, A, fuel + 1, hi, hfr, hA, hn, hf => by
    have hle : i ≤ s.size := by omega
    rw [ble_true hle, cond_true]
    have hlen : s.data.toList.length = s.size := rfl
    have app : ∀ (h : fr < i), TL (n + 1) (e59 n f s (fr : Int) (i : Int)) (A ++ [(s.data.toList.take i).drop fr]) := by
      intro h
      have := hA.snoc (s.extract fr (fr + (i - fr)))
      rw [bl_extract, show fr + (i - fr) = i by omega] at this
      unfold e59
      rw [Int.toNat_natCast, Int.toNat_natCast, show fr + (i - fr) = i by omega]
      exact this
    have tests : fr < i → decide ((i : Int) > (fr : Int)) = true ∧ inb (i : Int) (s.size + 1) = true ∧ (decide (0 ≤ (fr : Int)) && decide ((fr : Int) ≤ (i : Int))) = true := fun h =>
      ⟨dec_t (by omega), inb_t (by omega) (by omega), by rw [dec_t (show (0 : Int) ≤ (fr : Int) by omega), dec_t (show (fr : Int) ≤ (i : Int) by omega)]; rfl⟩
    have ne_cur : fr < i → ne [(s.data.toList.take i).drop fr] = [(s.data.toList.take i).drop fr] := by
      intro h
      rw [ne_cons]
      have : ((s.data.toList.take i).drop fr).isEmpty = false := by
        rw [List.isEmpty_eq_false_iff]
        intro e
        have := congrArg List.length e
        simp only [List.length_drop, List.length_take, List.length_nil] at this
        omega
      rw [this]; rfl
    have ne_no : ¬ fr < i → ne [(s.data.toList.take i).drop fr] = [] := by
      intro h
      have : (s.data.toList.take i).drop fr = [] := List.drop_eq_nil_of_le (by simp only [List.length_take]; omega)
      rw [this]; rfl
    by_cases he : i = s.size
    · -- the end
      have hw : IntKind.i64.wrap ((i : Int) + 1) = ((i + 1 : Nat) : Int) := by rw [i64_id (by omega) (by omega)]; omega
      have hnil : s.data.toList.drop i = [] := List.drop_eq_nil_of_le (by omega)
      rw [hnil, cutW_end]
      by_cases hlt : fr < i
      · obtain ⟨t1, t2, t3⟩ := tests hlt
        obtain ⟨nl', n', f', h1, h2⟩ := cutR_loop s hs d (i + 1) (i + 1) (n + 1) (nl && false) _ _ fuel (by omega) (Nat.le_refl _) (app hlt) (by omega) (by omega)
        have hb : Nat.ble (i + 1) s.size = false := by
          cases h : Nat.ble (i + 1) s.size with
          | false => rfl
          | true => have := Nat.le_of_ble_eq_true h; omega
        rw [hb, cond_false, List.append_nil] at h1
        refine ⟨nl', n', f', by rw [ne_cur hlt]; exact h1, fun α k0 => ?_⟩
        show ref21_Cut_L0_s0 _ k0 s (fr : Int) (i : Int) nl n f = _
        unfold ref21_Cut_L0_s0
        rw [dec_t (show (i : Int) ≤ (s.size : Int) by omega), cond_true, show ((i : Int) == (s.size : Int)) = true by rw [he]; exact beq_self_eq_true _, cond_true, t1, cond_true, t2, cond_true, t3, cond_true, bnd (by omega), cond_true, hw]
        exact h2 α k0
      · obtain ⟨nl', n', f', h1, h2⟩ := cutR_loop s hs d (i + 1) (i + 1) n nl f A fuel (by omega) (Nat.le_refl _) hA (by omega) (by omega)
        have hb : Nat.ble (i + 1) s.size = false := by
          cases h : Nat.ble (i + 1) s.size with
          | false => rfl
          | true => have := Nat.le_of_ble_eq_true h; omega
        rw [hb, cond_false, List.append_nil] at h1
        refine ⟨nl', n', f', by rw [ne_no hlt, List.append_nil]; exact h1, fun α k0 => ?_⟩
        show ref21_Cut_L0_s0 _ k0 s (fr : Int) (i : Int) nl n f = _
        unfold ref21_Cut_L0_s0
        rw [dec_t (show (i : Int) ≤ (s.size : Int) by omega), cond_true, show ((i : Int) == (s.size : Int)) = true by rw [he]; exact beq_self_eq_true _, cond_true, dec_f (show ¬ (i : Int) > (fr : Int) by omega), cond_false, hw]
        exact h2 α k0
    · have hlt2 : i < s.data.toList.length := by omega
      have hw : IntKind.i64.wrap ((i : Int) + 1) = ((i + 1 : Nat) : Int) := by rw [i64_id (by omega) (by omega)]; omega
      have hd : s.data.toList.drop i = s.data.toList[i] :: s.data.toList.drop (i + 1) := by rw [List.drop_eq_getElem_cons hlt2]
      have hbt := bt_get s i hlt2
      have hb1 : Nat.ble (i + 1) s.size = true := ble_true (by omega)
      have hq : ((i : Int) == (s.size : Int)) = false := by
        have : (i : Int) ≠ (s.size : Int) := by omega
        simpa using this
      by_cases hc : s.data.toList[i] = 32
      · have hbt32 : (bt s (i : Int) == 32) = true := by rw [hbt, hc]; rfl
        have hcur : (s.data.toList.take (i + 1)).drop (i + 1) = [] := List.drop_eq_nil_of_le (by simp only [List.length_take]; omega)
        rw [hd, hc, cutW_blank]
        by_cases hlt : fr < i
        · obtain ⟨t1, t2, t3⟩ := tests hlt
          obtain ⟨nl', n', f', h1, h2⟩ := cutR_loop s hs d (i + 1) (i + 1) (n + 1) (nl && false) _ _ fuel (by omega) (Nat.le_refl _) (app hlt) (by omega) (by omega)
          rw [hb1, cond_true, hcur, List.append_assoc] at h1
          refine ⟨nl', n', f', by rw [ne_cur hlt]; exact h1, fun α k0 => ?_⟩
          show ref21_Cut_L0_s0 _ k0 s (fr : Int) (i : Int) nl n f = _
          unfold ref21_Cut_L0_s0
          rw [dec_t (show (i : Int) ≤ (s.size : Int) by omega), cond_true, hq, cond_false, inb_t (show (0 : Int) ≤ (i : Int) by omega) (show (i : Int) < (s.size : Int) by omega), cond_true, hbt32, cond_true, t1, cond_true, t2, cond_true, t3, cond_true, bnd (by omega), cond_true, hw]
          exact h2 α k0
        · obtain ⟨nl', n', f', h1, h2⟩ := cutR_loop s hs d (i + 1) (i + 1) n nl f A fuel (by omega) (Nat.le_refl _) hA (by omega) (by omega)
          rw [hb1, cond_true, hcur] at h1
          refine ⟨nl', n', f', by rw [ne_no hlt]; exact h1, fun α k0 => ?_⟩
          show ref21_Cut_L0_s0 _ k0 s (fr : Int) (i : Int) nl n f = _
          unfold ref21_Cut_L0_s0
          rw [dec_t (show (i : Int) ≤ (s.size : Int) by omega), cond_true, hq, cond_false, inb_t (show (0 : Int) ≤ (i : Int) by omega) (show (i : Int) < (s.size : Int) by omega), cond_true, hbt32, cond_true, dec_f (show ¬ (i : Int) > (fr : Int) by omega), cond_false, hw]
          exact h2 α k0
      · have hbt32 : (bt s (i : Int) == 32) = false := by
          rw [hbt]
          have : ((s.data.toList[i]).toNat : Int) ≠ 32 := fun e => hc (by
            have e39 : (s.data.toList[i]).toNat = 32 := by omega
            have := congrArg UInt8.ofNat e39
            simpa using this)
          simpa using this
        have hcb : (s.data.toList[i] == 32) = false := by simpa using hc
        have hcur : (s.data.toList.take (i + 1)).drop fr = (s.data.toList.take i).drop fr ++ [s.data.toList[i]] := by
          rw [List.take_succ_eq_append_getElem hlt2, List.drop_append_of_le_length (by simp only [List.length_take]; omega)]
        obtain ⟨nl', n', f', h1, h2⟩ := cutR_loop s hs d (i + 1) fr n nl f A fuel (by omega) (by omega) hA (by omega) (by omega)
        rw [hb1, cond_true, hcur] at h1
        refine ⟨nl', n', f', ?_, fun α k0 => ?_⟩
        · rw [hd]
          show TL n' f' (A ++ (bif s.data.toList[i] == 32 then _ else cutW ((s.data.toList.take i).drop fr ++ [s.data.toList[i]]) (s.data.toList.drop (i + 1))))
          rw [hcb, cond_false]
          exact h1
        · show ref21_Cut_L0_s0 _ k0 s (fr : Int) (i : Int) nl n f = _
          unfold ref21_Cut_L0_s0
          rw [dec_t (show (i : Int) ≤ (s.size : Int) by omega), cond_true, hq, cond_false, inb_t (show (0 : Int) ≤ (i : Int) by omega) (show (i : Int) < (s.size : Int) by omega), cond_true, hbt32, cond_false, hw]
          exact h2 α k0
theorem cutR (s : ByteArray) (hs : s.size ≤ 900000) (g : Nat → Nat → PV) : ∃ nl n f, TL n f (words s.data.toList) ∧ ∀ (α : Type) (k0 : Bool → Nat → (Nat → Nat → PV) → Option α), ref21_Cut_L0 s g k0 = k0 nl n f := by
  obtain ⟨nl, n, f, h1, h2⟩ := cutR_loop s hs (s.size + 1) 0 0 0 true g [] 18446744073709551616 (by omega) (Nat.le_refl 0) (TL.nil g) (Nat.le_refl 0) (by omega)
  refine ⟨nl, n, f, ?_, fun α k0 => h2 α k0⟩
  rw [ble_true (Nat.zero_le _), cond_true, List.nil_append] at h1
  exact h1
def Good' (L : List (List UInt8)) : Prop := ∀ w ∈ L, w ≠ []
theorem joinW_app (A : List (List UInt8)) (x : List UInt8) : joinW (A ++ [x]) = bif A.isEmpty then x else joinW A ++ 32 :: x := by
  cases A with
  | nil => exact joinW_one x
  | cons y A => exact joinW_snoc (y :: A) x (by simp)
theorem joinW_empty {A : List (List UInt8)} (h : Good' A) : (joinW A).isEmpty = A.isEmpty := by
  match A, h with
  | [], _ => rfl
  | [x], h =>
    rw [joinW_one]
    have := h x (by simp)
    cases x with
    | nil => exact absurd rfl this
    | cons => rfl
  | x :: y :: A, h =>
    rw [joinW_two]
    cases x <;> rfl
theorem joinR_loop (N : Nat) (hN : N ≤ 1000000) (b : Bool) (row : Nat → Nat → PV) (L : List (List UInt8)) (hL : TL N row L) : ∀ (d i : Nat) (s : ByteArray) (A : List (List UInt8)) (fuel : Nat), i + d = N → s.data.toList = joinW A → Good' A → bulk (A ++ L.drop i) ≤ 4611686018427387000 → d < fuel →
    ∃ s' : ByteArray, s'.data.toList = joinW (A ++ ne (L.drop i)) ∧ ∀ (α : Type) (k0 : ByteArray → Option α), ref21_Join_L0_l0 k0 fuel b N row s (i : Int) = k0 s'
  | 0, i, s, A, fuel + 1, hi, hA, hg, hb, hf => by
    refine ⟨s, ?_, fun α k0 => ?_⟩
    · rw [List.drop_eq_nil_of_le (by rw [hL.1]; omega), ne_nil, List.append_nil]; exact hA
    · show ref21_Join_L0_s0 _ k0 b N row s (i : Int) = _
      unfold ref21_Join_L0_s0
      rw [dec_f (show ¬ (i : Int) < (N : Int) by omega), cond_false]
  | d + 1, i, s, A, fuel + 1, hi, hA, hg, hb, hf => by
    have hlt : i < L.length := by rw [hL.1]; omega
    have hd : L.drop i = L[i] :: L.drop (i + 1) := by rw [List.drop_eq_getElem_cons hlt]
    have hx := hL.2 i hlt
    have hw : IntKind.i64.wrap ((i : Int) + 1) = ((i + 1 : Nat) : Int) := by rw [i64_id (by omega) (by omega)]; omega
    have hin : inb (i : Int) N = true := inb_t (by omega) (by omega)
    have hdt : decide ((i : Int) < (N : Int)) = true := dec_t (by omega)
    have hsz : s.size = (joinW A).length := by rw [← hA]; rfl
    have hxz : (textOf (row i 0)).size = (L[i]).length := by rw [← hx]; rfl
    rw [hd, bulk_append] at hb
    simp only [bulk] at hb
    have hjl := joinW_len A
    cases he : (L[i]).isEmpty with
    | true =>
      obtain ⟨s', h1, h2⟩ := joinR_loop N hN b row L hL d (i + 1) s A fuel (by omega) hA hg (by rw [bulk_append]; omega) (by omega)
      refine ⟨s', ?_, fun α k0 => ?_⟩
      · rw [hd, ne_cons, he, cond_true]; exact h1
      · show ref21_Join_L0_s0 _ k0 b N row s (i : Int) = _
        unfold ref21_Join_L0_s0
        rw [hdt, cond_true, hin, cond_true, Int.toNat_natCast, beq_nil, hx, he, cond_true, hw]
        exact h2 α k0
    | false =>
      have hg2 : Good' (A ++ [L[i]]) := fun w hw => by
        rcases List.mem_append.1 hw with hw | hw
        · exact hg w hw
        · rw [List.mem_singleton.1 hw]
          exact List.isEmpty_eq_false_iff.1 he
      have hbb : bulk (A ++ [L[i]] ++ L.drop (i + 1)) ≤ 4611686018427387000 := by
        rw [bulk_append, bulk_append]
        simp only [bulk]
        omega
      cases hae : A.isEmpty with
      | true =>
        obtain rfl : A = [] := List.isEmpty_iff.1 hae
        obtain rfl : s = ⟨#[]⟩ := bl_inj hA
        have hs2 : ((⟨#[]⟩ : ByteArray) ++ textOf (row i 0)).data.toList = joinW ([] ++ [L[i]]) := by
          rw [bl_append, hx]
          show [] ++ L[i] = joinW [L[i]]
          rw [joinW_one]; rfl
        obtain ⟨s', h1, h2⟩ := joinR_loop N hN b row L hL d (i + 1) _ _ fuel (by omega) hs2 hg2 hbb (by omega)
        refine ⟨s', ?_, fun α k0 => ?_⟩
        · rw [hd, ne_cons, he, cond_false]
          rw [List.append_assoc] at h1
          exact h1
        · show ref21_Join_L0_s0 _ k0 b N row _ (i : Int) = _
          unfold ref21_Join_L0_s0
          rw [hdt, cond_true, hin, cond_true, Int.toNat_natCast, beq_nil, hx, he, cond_false]
          rw [show (!((⟨#[]⟩ : ByteArray).toList == (⟨#[]⟩ : ByteArray).toList)) = false by rw [beq_nil]; rfl, cond_false]
          rw [cond_true, ble_true (by rw [hxz]; show 0 + _ ≤ _; omega), cond_true, hw]
          exact h2 α k0
      | false =>
        have hs2 : ((s ++ ⟨#[32]⟩) ++ textOf (row i 0)).data.toList = joinW (A ++ [L[i]]) := by
          rw [bl_append, bl_append, hx, hA, joinW_app, hae, cond_false]
          simp
        obtain ⟨s', h1, h2⟩ := joinR_loop N hN b row L hL d (i + 1) _ _ fuel (by omega) hs2 hg2 hbb (by omega)
        refine ⟨s', ?_, fun α k0 => ?_⟩
        · rw [hd, ne_cons, he, cond_false]
          rw [List.append_assoc] at h1
          exact h1
        · have hse : s.data.toList.isEmpty = false := by rw [hA, joinW_empty hg, hae]
          have hsz2 : (s ++ (⟨#[32]⟩ : ByteArray)).size = s.size + 1 := by rw [ByteArray.size_append]; rfl
          show ref21_Join_L0_s0 _ k0 b N row s (i : Int) = _
          unfold ref21_Join_L0_s0
          rw [hdt, cond_true, hin, cond_true, Int.toNat_natCast, beq_nil, hx, he, cond_false, beq_nil, hse, Bool.not_false, cond_true]
          rw [ble_true (show s.size + (⟨#[32]⟩ : ByteArray).size ≤ 4611686018427387904 by show s.size + 1 ≤ _; omega), cond_true, cond_true, ble_true (by rw [hsz2, hxz]; omega), cond_true, hw]
          exact h2 α k0
theorem joinR {N : Nat} {b : Bool} {row : Nat → Nat → PV} {L : List (List UInt8)} (hL : TL N row L) (hN : L.length ≤ 1000000) (hb : bulk L ≤ 140737488355328) {α : Type} (k0 : ByteArray → Option α) : ref21_Join_L0 b N row k0 = k0 ⟨(joinW (ne L)).toArray⟩ := by
  obtain ⟨s', h1, h2⟩ := joinR_loop N (by rw [← hL.1]; exact hN) b row L hL N 0 ⟨#[]⟩ [] 18446744073709551616 (by omega) rfl (by intro w hw; cases hw) (by rw [List.nil_append, List.drop_zero]; omega) (by have := hL.1; omega)
  rw [List.nil_append, List.drop_zero] at h1
  have : s' = ⟨(joinW (ne L)).toArray⟩ := bl_inj h1
  subst this
  exact h2 α k0
theorem e27_eq (u : Nat) : e40 (u : Int) = ⟨#[UInt8.ofNat (48 + u % 10)]⟩ := by
  unfold e40
  have h1 : (u : Int).tmod 10 = ((u % 10 : Nat) : Int) := by rw [Int.tmod_eq_emod_of_nonneg (by omega)]; omega
  rw [h1, u8_id (n := ((u % 10 : Nat) : Int)) (by omega) (by omega), u8_id (by omega) (by omega)]
  have : (48 + ((u % 10 : Nat) : Int)) = ((48 + u % 10 : Nat) : Int) := by omega
  rw [this]
  show (⟨((List.range 1).map fun i => ubyte (rowOf 1 [.val (.int .u8 ((48 + u % 10 : Nat) : Int))] i 0)).toArray⟩ : ByteArray) = _
  show (⟨#[UInt8.ofNat (((48 + u % 10 : Nat) : Int)).toNat]⟩ : ByteArray) = _
  rw [Int.toNat_natCast]
theorem u64_div (u : Nat) (hu : u < 18446744073709551616) : IntKind.u64.wrap ((u : Int).tdiv 10) = ((u / 10 : Nat) : Int) := by
  have : (u : Int).tdiv 10 = ((u / 10 : Nat) : Int) := by rw [Int.tdiv_eq_ediv_of_nonneg (by omega)]; omega
  rw [this, u64_id (by omega) (by omega)]
theorem text_loop {α : Type} (k0 : Int → ByteArray → Option α) (a : Int) : ∀ (m u : Nat) (s : ByteArray) (fuel : Nat), u < 10 ^ (m + 1) → u < 18446744073709551616 → m < fuel → s.size + m ≤ 1000 → ref21_Text_L0_l0 k0 fuel a (u : Int) s = k0 a ⟨(Lib.decDigits u ++ s.data.toList).toArray⟩
  | m, u, s, 0, _, _, hf, _ => by omega
  | m, u, s, fuel + 1, hu, hu2, hf, hs => by
    have hsz : ((⟨#[UInt8.ofNat (48 + u % 10)]⟩ : ByteArray).size + s.size) = 1 + s.size := rfl
    have hap : (⟨#[UInt8.ofNat (48 + u % 10)]⟩ : ByteArray) ++ s = ⟨(UInt8.ofNat (48 + u % 10) :: s.data.toList).toArray⟩ := bl_inj (by rw [bl_append]; rfl)
    show ref21_Text_L0_s0 _ k0 a (u : Int) s = _
    unfold ref21_Text_L0_s0
    rw [e27_eq, hsz, ble_true (by omega), cond_true, u64_div u hu2, hap]
    by_cases h : u < 10
    · have h0 : u / 10 = 0 := by omega
      rw [h0, show (((0 : Nat) : Int) == 0) = true from rfl, cond_true, Lib.decDigits, dif_pos h, Nat.mod_eq_of_lt h]
      rfl
    · have h0 : (((u / 10 : Nat) : Int) == 0) = false := by
        have : ((u / 10 : Nat) : Int) ≠ 0 := by omega
        simpa using this
      rw [h0, cond_false]
      cases m with
      | zero => omega
      | succ m =>
        rw [text_loop k0 a m (u / 10) ⟨(UInt8.ofNat (48 + u % 10) :: s.data.toList).toArray⟩ fuel (by rw [Nat.pow_succ] at hu; omega) (by omega) (by omega) (by show (UInt8.ofNat (48 + u % 10) :: s.data.toList).length + m ≤ 1000; rw [List.length_cons, bl_size]; omega)]
        congr 1
        rw [Lib.decDigits.eq_1 u, dif_neg h]
        simp
theorem dec_len (m u : Nat) (h : u < 10 ^ (m + 1)) : (Lib.decDigits u).length ≤ m + 1 := by
  induction m generalizing u with
  | zero => rw [Lib.decDigits, dif_pos (by omega)]; exact Nat.le_refl _
  | succ m ih =>
    rw [Lib.decDigits]
    split
    · simp
    · have := ih (u / 10) (by rw [Nat.pow_succ] at h; omega)
      simp only [List.length_append, List.length_singleton]
      omega
theorem text_eq {a : Int} (h : okI a = true) {α : Type} (k0 : ByteArray → Option α) : ref21_Text a k0 = k0 (itoaS a) := by
  obtain ⟨h0, h1⟩ := okI_spec.1 h
  have hi := itoaS_eq h
  unfold ref21_Text ref21_Text_T
  by_cases hn : a < 0
  · have he : e39 a = ((a.natAbs : Nat) : Int) := by
      unfold e39
      rw [i64_id (n := a + 1) (by omega) (by omega), i64_id (n := 0 - (a + 1)) (by omega) (by omega), u64_id (n := 0 - (a + 1)) (by omega) (by omega), u64_id (by omega) (by omega)]
      omega
    have hl : ∀ (k : Int → ByteArray → Option α), ref21_Text_L0 a (e39 a) k = k a ⟨(Lib.decDigits a.natAbs).toArray⟩ := fun k => by
      rw [he]
      have := text_loop k a 19 a.natAbs ⟨#[]⟩ 18446744073709551616 (by omega) (by omega) (by omega) (by show 0 + 19 ≤ 1000; omega)
      rw [show Lib.decDigits a.natAbs ++ (⟨#[]⟩ : ByteArray).data.toList = Lib.decDigits a.natAbs from List.append_nil _] at this
      exact this
    have hlen := dec_len 19 a.natAbs (by omega)
    rw [dec_t hn, cond_true, hl, dec_t hn, cond_true, ble_true (show (⟨#[45]⟩ : ByteArray).size + (⟨(Lib.decDigits a.natAbs).toArray⟩ : ByteArray).size ≤ 4611686018427387904 by show 1 + (Lib.decDigits a.natAbs).length ≤ _; omega), cond_true, hi]
    congr 1
    refine bl_inj ?_
    rw [bl_append]
    unfold Lib.itoa
    rw [if_pos hn]
    rfl
  · have he : IntKind.u64.wrap a = ((a.toNat : Nat) : Int) := by rw [u64_id (by omega) (by omega)]; omega
    have hl : ∀ (k : Int → ByteArray → Option α), ref21_Text_L0 a (IntKind.u64.wrap a) k = k a ⟨(Lib.decDigits a.toNat).toArray⟩ := fun k => by
      rw [he]
      have := text_loop k a 19 a.toNat ⟨#[]⟩ 18446744073709551616 (by omega) (by omega) (by omega) (by show 0 + 19 ≤ 1000; omega)
      rw [show Lib.decDigits a.toNat ++ (⟨#[]⟩ : ByteArray).data.toList = Lib.decDigits a.toNat from List.append_nil _] at this
      exact this
    rw [dec_f hn, cond_false, hl, dec_f hn, cond_false, hi]
    unfold Lib.itoa
    rw [if_neg hn]
def allD (l : List UInt8) : Bool := l.all fun c => decide (48 ≤ c.toNat) && decide (c.toNat ≤ 57)
def foldV (v : Nat) (l : List UInt8) : Nat := l.foldl (fun a c => a * 10 + (c.toNat - 48)) v
theorem numR_loop {α : Type} (s : ByteArray) (hs : s.size ≤ 10) (k0 : Option α) (k1 : ByteArray → Int → Option α) : ∀ (d i v fuel : Nat), i + d = s.size → v < 10 ^ i → d < fuel →
    ref21_Num_L0_l0 k0 k1 fuel s (v : Int) (i : Int) = bif allD (s.data.toList.drop i) then k1 s ((foldV v (s.data.toList.drop i) : Nat) : Int) else k0
  | 0, i, v, fuel + 1, hi, hv, hf => by
    show ref21_Num_L0_s0 _ k0 k1 s (v : Int) (i : Int) = _
    unfold ref21_Num_L0_s0
    rw [dec_f (show ¬ (i : Int) < (s.size : Int) by omega), cond_false, List.drop_eq_nil_of_le (by rw [bl_size]; omega)]
    rfl
  | d + 1, i, v, fuel + 1, hi, hv, hf => by
    have hlt : i < s.data.toList.length := by rw [bl_size]; omega
    have hd : s.data.toList.drop i = s.data.toList[i] :: s.data.toList.drop (i + 1) := by rw [List.drop_eq_getElem_cons hlt]
    have hin : inb (i : Int) s.size = true := inb_t (by omega) (by omega)
    have hv10 : v < 10000000000 := Nat.lt_of_lt_of_le hv (Nat.pow_le_pow_right (by omega) (show i ≤ 10 by omega))
    show ref21_Num_L0_s0 _ k0 k1 s (v : Int) (i : Int) = _
    unfold ref21_Num_L0_s0
    rw [dec_t (show (i : Int) < (s.size : Int) by omega), cond_true, hin, cond_true, bt_get s i hlt, hd]
    have hc := (s.data.toList[i]).toNat_lt
    generalize hcd : s.data.toList[i] = c at *
    have hall : ∀ r, allD (c :: r) = ((decide (48 ≤ c.toNat) && decide (c.toNat ≤ 57)) && allD r) := fun r => rfl
    rw [hall]
    by_cases h1 : (c.toNat : Int) < 48
    · rw [dec_t h1, cond_true, dec_f (show ¬ 48 ≤ c.toNat by omega)]
      rfl
    · rw [dec_f h1, cond_false, dec_t (show 48 ≤ c.toNat by omega), cond_true]
      by_cases h2 : (c.toNat : Int) > 57
      · rw [dec_t h2, cond_true, dec_f (show ¬ c.toNat ≤ 57 by omega)]
        rfl
      · have he : e60 (v : Int) s (i : Int) = ((v * 10 + (c.toNat - 48) : Nat) : Int) := by
          unfold e60
          rw [bt_get s i hlt, hcd, u8_id (by omega) (by omega), i64_id (n := (v : Int) * 10) (by omega) (by omega), i64_id (n := (c.toNat : Int) - 48) (by omega) (by omega), i64_id (by omega) (by omega)]
          omega
        rw [dec_f h2, cond_false, cond_true, dec_t (show c.toNat ≤ 57 by omega), he, i64_id (n := (i : Int) + 1) (by omega) (by omega)]
        have ih := numR_loop s hs k0 k1 d (i + 1) (v * 10 + (c.toNat - 48)) fuel (by omega) (by rw [Nat.pow_succ]; omega) (by omega)
        exact ih
theorem dec_all (u : Nat) : allD (Lib.decDigits u) = true := by
  induction u using Nat.strongRecOn with
  | _ u ih =>
    have hd : ∀ d, d < 10 → (decide (48 ≤ (UInt8.ofNat (48 + d)).toNat) && decide ((UInt8.ofNat (48 + d)).toNat ≤ 57)) = true := fun d h => by
      rw [u8_digit h, dec_t (by omega), dec_t (by omega)]; rfl
    rw [Lib.decDigits]
    split
    · rename_i h
      show ((decide (48 ≤ (UInt8.ofNat (48 + u)).toNat) && decide ((UInt8.ofNat (48 + u)).toNat ≤ 57)) && true) = true
      rw [hd u h]; rfl
    · rename_i h
      have h1 := ih (u / 10) (by omega)
      unfold allD at *
      rw [List.all_append, h1]
      show (true && ((decide (48 ≤ (UInt8.ofNat (48 + u % 10)).toNat) && decide ((UInt8.ofNat (48 + u % 10)).toNat ≤ 57)) && true)) = true
      rw [hd _ (by omega)]; rfl
theorem num_eq (s : ByteArray) {α : Type} (k0 : Option α) (k1 : Int → Option α) : ref21_Num s k0 k1 = bif numOk s then k1 ((numV s : Nat) : Int) else k0 := by
  unfold ref21_Num ref21_Num_T
  have no : (∀ u : Nat, u ≤ 4294967295 → s.data.toList = Lib.decDigits u → False) → numOk s = false := fun h => by
    cases hb : numOk s with
    | false => rfl
    | true => obtain ⟨u, hu, hd⟩ := numOk_spec.1 hb; exact (h u hu hd).elim
  rw [beq_nil]
  cases he : s.data.toList.isEmpty with
  | true =>
    rw [cond_true, no fun u _ hd => dec_ne u (by rw [← hd]; exact List.isEmpty_iff.1 he)]
    rfl
  | false =>
    rw [cond_false]
    by_cases h10 : (s.size : Int) > 10
    · rw [dec_t h10, cond_true, no fun u hu hd => by
        have := dec_len 9 u (by omega)
        rw [← hd, bl_size] at this
        omega]
      rfl
    · rw [dec_f h10, cond_false]
      have hl := numR_loop s (by omega) k0 (fun r_2 r_3 => bif decide (r_3 ≥ 4294967296) then k0 else ref21_Text r_3 (fun r_4 => bif !(r_4.toList == r_2.toList) then k0 else k1 r_3)) s.size 0 0 18446744073709551616 (by omega) (by omega) (by omega)
      rw [List.drop_zero] at hl
      refine Eq.trans hl ?_
      cases ha : allD s.data.toList with
      | false =>
        rw [cond_false, no fun u _ hd => by rw [hd, dec_all] at ha; cases ha]
        rfl
      | true =>
        rw [cond_true, show foldV 0 s.data.toList = numV s from rfl]
        by_cases hv : numV s ≤ 4294967295
        · rw [dec_f (show ¬ ((numV s : Nat) : Int) ≥ 4294967296 by omega), cond_false, text_eq (okI_spec.2 ⟨by omega, by omega⟩), beq_bl]
          have hi : (itoaS ((numV s : Nat) : Int)).data.toList = decL (numV s) := by
            unfold itoaS
            rw [dec_f (show ¬ ((numV s : Nat) : Int) < 0 by omega), cond_false]
            rfl
          rw [hi]
          unfold numOk
          rw [ble_true hv, Bool.true_and]
          cases decL (numV s) == s.data.toList <;> rfl
        · rw [dec_t (show ((numV s : Nat) : Int) ≥ 4294967296 by omega), cond_true]
          unfold numOk
          have : Nat.ble (numV s) 4294967295 = false := by
            cases h : Nat.ble (numV s) 4294967295 with
            | false => rfl
            | true => exact absurd (Nat.le_of_ble_eq_true h) hv
          rw [this]; rfl
def H (n : Nat) : UInt8 := ([48, 49, 50, 51, 52, 53, 54, 55, 56, 57, 97, 98, 99, 100, 101, 102] : List UInt8).getD n 0
def pa (B : Int) : ByteArray := (⟨#[48, 49, 50, 51, 52, 53, 54, 55, 56, 57, 97, 98, 99, 100, 101, 102]⟩ : ByteArray).extract ((shrI .u8 B 4).toNat) (((shrI .u8 B 4).toNat) + (((IntKind.u8.wrap ((shrI .u8 B 4) + 1)).toNat) - ((shrI .u8 B 4).toNat)))
def pb (B : Int) : ByteArray := (⟨#[48, 49, 50, 51, 52, 53, 54, 55, 56, 57, 97, 98, 99, 100, 101, 102]⟩ : ByteArray).extract ((bits .and .u8 B 15).toNat) (((bits .and .u8 B 15).toNat) + (((IntKind.u8.wrap ((bits .and .u8 B 15) + 1)).toNat) - ((bits .and .u8 B 15).toNat)))
def tst (n : Nat) : Bool := inb (IntKind.u8.wrap ((shrI .u8 (n : Int) 4) + 1)) 17 && ((decide (0 ≤ shrI .u8 (n : Int) 4) && decide (shrI .u8 (n : Int) 4 ≤ IntKind.u8.wrap ((shrI .u8 (n : Int) 4) + 1))) && (inb (IntKind.u8.wrap ((bits .and .u8 (n : Int) 15) + 1)) 17 && ((decide (0 ≤ bits .and .u8 (n : Int) 15) && decide (bits .and .u8 (n : Int) 15 ≤ IntKind.u8.wrap ((bits .and .u8 (n : Int) 15) + 1))) && (Nat.ble ((pa n).size + (pb n).size) 4611686018427387904 && (pa n ++ pb n).data.toList == [H (n / 16), H (n % 16)]))))
theorem all256 : ((List.range 256).all tst) = true := by kernel_rfl
structure Byte (B : Int) (n : Nat) : Prop where
  c1 : inb (IntKind.u8.wrap ((shrI .u8 B 4) + 1)) 17 = true
  c2 : (decide (0 ≤ shrI .u8 B 4) && decide (shrI .u8 B 4 ≤ IntKind.u8.wrap ((shrI .u8 B 4) + 1))) = true
  c3 : inb (IntKind.u8.wrap ((bits .and .u8 B 15) + 1)) 17 = true
  c4 : (decide (0 ≤ bits .and .u8 B 15) && decide (bits .and .u8 B 15 ≤ IntKind.u8.wrap ((bits .and .u8 B 15) + 1))) = true
  c5 : Nat.ble ((pa B).size + (pb B).size) 4611686018427387904 = true
  p : (pa B ++ pb B).data.toList = [H (n / 16), H (n % 16)]
theorem byte_ok {B : Int} {n : Nat} (e : B = (n : Int)) (h : n < 256) : Byte B n := by
  subst e
  have := List.all_eq_true.1 all256 n (List.mem_range.2 h)
  simp only [tst, Bool.and_eq_true] at this
  obtain ⟨h1, h2, h3, h4, h5, h6⟩ := this
  exact ⟨h1, by simpa using h2, h3, by simpa using h4, h5, by simpa using h6⟩
def b5 (X : Nat) : Nat := X / 1099511627776 % 256
def b4 (X : Nat) : Nat := X / 4294967296 % 256
def b3 (X : Nat) : Nat := X / 16777216 % 256
def b2 (X : Nat) : Nat := X / 65536 % 256
def b1 (X : Nat) : Nat := X / 256 % 256
def b0' (X : Nat) : Nat := X % 256
def tl (X : Nat) : List UInt8 := [H (b5 X / 16), H (b5 X % 16), 58, H (b4 X / 16), H (b4 X % 16), 58, H (b3 X / 16), H (b3 X % 16), 58, H (b2 X / 16), H (b2 X % 16), 58, H (b1 X / 16), H (b1 X % 16), 58, H (b0' X / 16), H (b0' X % 16)]
theorem w40 (X : Nat) : IntKind.u8.wrap (shrI .u64 (X : Int) 40) = ((b5 X : Nat) : Int) := by rw [b40]; unfold b5; omega
theorem w32 (X : Nat) : IntKind.u8.wrap (shrI .u64 (X : Int) 32) = ((b4 X : Nat) : Int) := by rw [b32]; unfold b4; omega
theorem w24 (X : Nat) : IntKind.u8.wrap (shrI .u64 (X : Int) 24) = ((b3 X : Nat) : Int) := by rw [b24]; unfold b3; omega
theorem w16 (X : Nat) : IntKind.u8.wrap (shrI .u64 (X : Int) 16) = ((b2 X : Nat) : Int) := by rw [b16]; unfold b2; omega
theorem w8 (X : Nat) : IntKind.u8.wrap (shrI .u64 (X : Int) 8) = ((b1 X : Nat) : Int) := by rw [b8]; unfold b1; omega
theorem w0 (X : Nat) : IntKind.u8.wrap (shrI .u64 (X : Int) 0) = ((b0' X : Nat) : Int) := by rw [Ve.b0]; unfold b0'; omega
theorem text_ex (X : Nat) (hX : X < 281474976710656) (α : Type) (k0 : ByteArray → Option α) : mac_Text (X : Int) k0 = k0 ⟨(tl X).toArray⟩ := by
  have f5 := byte_ok (w40 X) (by unfold b5; omega)
  have f4 := byte_ok (w32 X) (by unfold b4; omega)
  have f3 := byte_ok (w24 X) (by unfold b3; omega)
  have f2 := byte_ok (w16 X) (by unfold b2; omega)
  have f1 := byte_ok (w8 X) (by unfold b1; omega)
  have f0 := byte_ok (w0 X) (by unfold b0'; omega)
  have s5 : Nat.ble ((e2 X).size + (e3 X).size) 4611686018427387904 = true := f5.c5
  have s4 : Nat.ble ((e4 X).size + (e5 X).size) 4611686018427387904 = true := f4.c5
  have s3 : Nat.ble ((e7 X).size + (e8 X).size) 4611686018427387904 = true := f3.c5
  have s2 : Nat.ble ((e9 X).size + (e10 X).size) 4611686018427387904 = true := f2.c5
  have s1 : Nat.ble ((e12 X).size + (e13 X).size) 4611686018427387904 = true := f1.c5
  have s0 : Nat.ble ((e14 X).size + (e15 X).size) 4611686018427387904 = true := f0.c5
  have p5 : ((e2 X) ++ (e3 X)).data.toList = [H (b5 X / 16), H (b5 X % 16)] := f5.p
  have p4 : ((e4 X) ++ (e5 X)).data.toList = [H (b4 X / 16), H (b4 X % 16)] := f4.p
  have p3 : ((e7 X) ++ (e8 X)).data.toList = [H (b3 X / 16), H (b3 X % 16)] := f3.p
  have p2 : ((e9 X) ++ (e10 X)).data.toList = [H (b2 X / 16), H (b2 X % 16)] := f2.p
  have p1 : ((e12 X) ++ (e13 X)).data.toList = [H (b1 X / 16), H (b1 X % 16)] := f1.p
  have p0 : ((e14 X) ++ (e15 X)).data.toList = [H (b0' X / 16), H (b0' X % 16)] := f0.p
  have hrow : (rowL 6 (e16 X)).map (·.data.toList) = [((e2 X) ++ (e3 X)).data.toList, ((e4 X) ++ (e5 X)).data.toList, ((e7 X) ++ (e8 X)).data.toList, ((e9 X) ++ (e10 X)).data.toList, ((e12 X) ++ (e13 X)).data.toList, ((e14 X) ++ (e15 X)).data.toList] := by kernel_rfl
  rw [p5, p4, p3, p2, p1, p0] at hrow
  have hj : Lib.join ((rowL 6 (e16 X)).map (·.data.toList)) (⟨#[58]⟩ : ByteArray).data.toList = tl X := by rw [hrow]; rfl
  have hok : joinOk 6 (e16 X) (⟨#[58]⟩ : ByteArray) = true := by unfold joinOk; rw [hj]; rfl
  have hs : joinS 6 (e16 X) (⟨#[58]⟩ : ByteArray) = ⟨(tl X).toArray⟩ := by unfold joinS; rw [hj]
  unfold mac_Text mac_Text_T
  rw [shr48 (by omega), dec_t (show (X : Int) < 281474976710656 by omega)]
  rw [f5.c1, f5.c2, f5.c3, f5.c4, s5, f4.c1, f4.c2, f4.c3, f4.c4, s4, f3.c1, f3.c2, f3.c3, f3.c4, s3, f2.c1, f2.c2, f2.c3, f2.c4, s2, f1.c1, f1.c2, f1.c3, f1.c4, s1, f0.c1, f0.c2, f0.c3, f0.c4, s0, hok, hs]
  rfl
def D : List UInt8 := (⟨#[48, 49, 50, 51, 52, 53, 54, 55, 56, 57, 97, 98, 99, 100, 101, 102]⟩ : ByteArray).data.toList
def hv (p : ByteArray) (t : Int) : Int := Lib.indexByte D (bt p t).toNat.toUInt8
def gp (p : ByteArray) : Bool := p.size == 2 && (decide (0 ≤ hv p 0) && decide (0 ≤ hv p 1))
def vp (p : ByteArray) : Int := IntKind.u8.wrap (bits .or .i64 (shlI .i64 (hv p 0) 4) (hv p 1))
def dig (c : Nat) : Bool := Lib.indexByte D c.toUInt8 == -1 || (decide (0 ≤ Lib.indexByte D c.toUInt8) && (decide (Lib.indexByte D c.toUInt8 < 16) && H (Lib.indexByte D c.toUInt8).toNat == c.toUInt8))
theorem dig_all : ((List.range 256).all dig) = true := by kernel_rfl
theorem dig_ok (c : UInt8) (h : 0 ≤ Lib.indexByte D c) : ∃ n : Nat, n < 16 ∧ Lib.indexByte D c = (n : Int) ∧ c = H n := by
  have e : c.toNat.toUInt8 = c := UInt8.ofNat_toNat
  have := List.all_eq_true.1 dig_all c.toNat (List.mem_range.2 c.toNat_lt)
  simp only [dig, e, Bool.or_eq_true, Bool.and_eq_true, beq_iff_eq, decide_eq_true_eq] at this
  rcases this with h1 | ⟨h1, h2, h3⟩
  · omega
  · exact ⟨(Lib.indexByte D c).toNat, by omega, by omega, h3.symm⟩
def undig (n : Nat) : Bool := Lib.indexByte D (H n) == (n : Int) && !(H n == 58)
theorem undig_all : ((List.range 16).all undig) = true := by kernel_rfl
theorem undig_ok (n : Nat) (h : n < 16) : Lib.indexByte D (H n) = (n : Int) ∧ H n ≠ 58 := by
  have := List.all_eq_true.1 undig_all n (List.mem_range.2 h)
  simpa [undig] using this
def twod : Bool := (List.range 16).all fun n => (List.range 16).all fun m => IntKind.u8.wrap (bits .or .i64 (shlI .i64 (n : Int) 4) (m : Int)) == ((n * 16 + m : Nat) : Int)
theorem twod_all : twod = true := by kernel_rfl
theorem twod_ok (n m : Nat) (hn : n < 16) (hm : m < 16) : IntKind.u8.wrap (bits .or .i64 (shlI .i64 (n : Int) 4) (m : Int)) = ((n * 16 + m : Nat) : Int) := by
  have := List.all_eq_true.1 (List.all_eq_true.1 twod_all n (List.mem_range.2 hn)) m (List.mem_range.2 hm)
  simpa using this
theorem bt0 (x y : UInt8) : (bt ⟨#[x, y]⟩ 0).toNat.toUInt8 = x := by
  show (((x.toNat : Int)).toNat).toUInt8 = x
  rw [Int.toNat_natCast]
  exact UInt8.ofNat_toNat
theorem bt1 (x y : UInt8) : (bt ⟨#[x, y]⟩ 1).toNat.toUInt8 = y := by
  show (((y.toNat : Int)).toNat).toUInt8 = y
  rw [Int.toNat_natCast]
  exact UInt8.ofNat_toNat
theorem gp_of {n m : Nat} (hn : n < 16) (hm : m < 16) : gp ⟨#[H n, H m]⟩ = true ∧ vp ⟨#[H n, H m]⟩ = ((n * 16 + m : Nat) : Int) := by
  have q0 : hv ⟨#[H n, H m]⟩ 0 = (n : Int) := by unfold hv; rw [bt0]; exact (undig_ok n hn).1
  have q1 : hv ⟨#[H n, H m]⟩ 1 = (m : Int) := by unfold hv; rw [bt1]; exact (undig_ok m hm).1
  constructor
  · unfold gp
    rw [q0, q1, dec_t (by omega), dec_t (by omega)]
    rfl
  · unfold vp
    rw [q0, q1, twod_ok n m hn hm]
theorem of_gp {p : ByteArray} (h : gp p = true) : ∃ n m : Nat, n < 16 ∧ m < 16 ∧ p = ⟨#[H n, H m]⟩ := by
  simp only [gp, Bool.and_eq_true, beq_iff_eq, decide_eq_true_eq] at h
  obtain ⟨h1, h2, h3⟩ := h
  obtain ⟨x, y, rfl⟩ : ∃ x y, p = ⟨#[x, y]⟩ := by
    obtain ⟨⟨l⟩⟩ := p
    match l, h1 with
    | [x, y], _ => exact ⟨x, y, rfl⟩
  unfold hv at h2 h3
  rw [bt0] at h2
  rw [bt1] at h3
  obtain ⟨n, hn, _, rfl⟩ := dig_ok x h2
  obtain ⟨m, hm, _, rfl⟩ := dig_ok y h3
  exact ⟨n, m, hn, hm, rfl⟩
theorem bndM {n : Nat} (h : n ≤ 200000) : Nat.ble (n * 1) bound = true := ble_true (by unfold bound; omega)
theorem e5_hv (row : Nat → Nat → PV) (i : Nat) : e20 row (i : Int) = hv (textOf (row i 0)) 0 := by unfold e20; rw [Int.toNat_natCast]; rfl
theorem e6_hv (row : Nat → Nat → PV) (i : Nat) : e21 row (i : Int) = hv (textOf (row i 0)) 1 := by unfold e21; rw [Int.toNat_natCast]; rfl
theorem e7_vp (row : Nat → Nat → PV) (i : Nat) : e22 row (i : Int) = rowOf 1 [.val (.int .u8 (vp (textOf (row i 0))))] := by unfold e22; rw [e5_hv, e6_hv]; rfl
theorem step_end {α : Type} (k0 : Option α) (k1 : Bool → Nat → (Nat → Nat → PV) → Option α) (m N n : Nat) (nl : Bool) (f row : Nat → Nat → PV) : mac_Parse_L0_l0 k0 k1 (m + 1) (N : Int) (N : Int) nl n f N row = k1 nl n f := by
  show mac_Parse_L0_s0 _ k0 k1 (N : Int) (N : Int) nl n f N row = _
  unfold mac_Parse_L0_s0
  rw [dec_f (Int.lt_irrefl _), cond_false]
theorem step_bad {α : Type} (k0 : Option α) (k1 : Bool → Nat → (Nat → Nat → PV) → Option α) (m N i n : Nat) (nl : Bool) (f row : Nat → Nat → PV) (hi : i < N) (hb : gp (textOf (row i 0)) = false) : mac_Parse_L0_l0 k0 k1 (m + 1) (N : Int) (i : Int) nl n f N row = k0 := by
  show mac_Parse_L0_s0 _ k0 k1 (N : Int) (i : Int) nl n f N row = _
  unfold mac_Parse_L0_s0
  rw [dec_t (show (i : Int) < (N : Int) by omega), inb_t (show (0 : Int) ≤ (i : Int) by omega) (show (i : Int) < (N : Int) by omega), cond_true, cond_true, e5_hv, e6_hv, Int.toNat_natCast]
  unfold gp at hb
  generalize textOf (row i 0) = p at *
  by_cases h2 : p.size = 2
  · rw [h2, show (((2 : Nat) : Int) != 2) = false from rfl, cond_false, inb_t (show (0 : Int) ≤ 0 by omega) (show (0 : Int) < ((2 : Nat) : Int) by omega), inb_t (show (0 : Int) ≤ 1 by omega) (show (1 : Int) < ((2 : Nat) : Int) by omega), cond_true, cond_true]
    by_cases h3 : hv p 0 < 0
    · rw [dec_t h3, cond_true]
    · rw [dec_f h3, cond_false]
      by_cases h4 : hv p 1 < 0
      · rw [dec_t h4, cond_true]
      · rw [h2, dec_t (show 0 ≤ hv p 0 by omega), dec_t (show 0 ≤ hv p 1 by omega)] at hb
        cases hb
  · rw [show ((p.size : Int) != 2) = true from bne_iff_ne.2 (by omega), cond_true]
theorem step_good {α : Type} (k0 : Option α) (k1 : Bool → Nat → (Nat → Nat → PV) → Option α) (m N i n : Nat) (nl : Bool) (f row : Nat → Nat → PV) (hi : i < N) (hN : N ≤ 1000) (hn : n ≤ 1000) (hb : gp (textOf (row i 0)) = true) : mac_Parse_L0_l0 k0 k1 (m + 1) (N : Int) (i : Int) nl n f N row = mac_Parse_L0_l0 k0 k1 m (N : Int) ((i + 1 : Nat) : Int) (nl && false) (n + 1) (catf n f (rowOf 1 [.val (.int .u8 (vp (textOf (row i 0))))])) N row := by
  show mac_Parse_L0_s0 (mac_Parse_L0_l0 k0 k1 m) k0 k1 (N : Int) (i : Int) nl n f N row = _
  unfold mac_Parse_L0_s0
  rw [dec_t (show (i : Int) < (N : Int) by omega), inb_t (show (0 : Int) ≤ (i : Int) by omega) (show (i : Int) < (N : Int) by omega), cond_true, cond_true, e5_hv, e6_hv, e7_vp, Int.toNat_natCast]
  simp only [gp, Bool.and_eq_true, beq_iff_eq, decide_eq_true_eq] at hb
  obtain ⟨h1, h2, h3⟩ := hb
  rw [h1, show (((2 : Nat) : Int) != 2) = false from rfl, cond_false, inb_t (show (0 : Int) ≤ 0 by omega) (show (0 : Int) < ((2 : Nat) : Int) by omega), inb_t (show (0 : Int) ≤ 1 by omega) (show (1 : Int) < ((2 : Nat) : Int) by omega), cond_true, cond_true, dec_f (show ¬ hv (textOf (row i 0)) 0 < 0 by omega), dec_f (show ¬ hv (textOf (row i 0)) 1 < 0 by omega), cond_false, cond_false, bndM (show n + 1 ≤ 200000 by omega), cond_true, i64_id (by omega) (by omega)]
  rfl
theorem loop_bad {N : Nat} {row : Nat → Nat → PV} (hN : N ≤ 1000) : ∀ (r m i : Nat) (nl : Bool) (f : Nat → Nat → PV), i + r = N → r < m → (∃ j, i ≤ j ∧ j < N ∧ gp (textOf (row j 0)) = false) → ∀ (α : Type) (k0 : Option α) k1, mac_Parse_L0_l0 k0 k1 m (N : Int) (i : Int) nl i f N row = k0
  | 0, m, i, nl, f, hi, hm, ⟨j, h1, h2, _⟩ => by omega
  | r + 1, 0, i, nl, f, hi, hm, _ => by omega
  | r + 1, m + 1, i, nl, f, hi, hm, ⟨j, h1, h2, h3⟩ => by
    intro α k0 k1
    cases hg : gp (textOf (row i 0)) with
    | false => exact step_bad k0 k1 m N i i nl f row (by omega) hg
    | true =>
      rw [step_good k0 k1 m N i i nl f row (by omega) hN (by omega) hg]
      have hne : j ≠ i := fun e => by rw [e, hg] at h3; cases h3
      exact loop_bad hN r m (i + 1) _ _ (by omega) (by omega) ⟨j, by omega, h2, h3⟩ α k0 k1
theorem loop_good {N : Nat} {row : Nat → Nat → PV} (hN : N ≤ 1000) : ∀ (r m i : Nat) (nl : Bool) (f : Nat → Nat → PV), i + r = N → r < m → (∀ j, i ≤ j → j < N → gp (textOf (row j 0)) = true) → ∃ nl' f', (∀ j, j < i → f' j 0 = f j 0) ∧ (∀ j, i ≤ j → j < N → numOf (f' j 0) = vp (textOf (row j 0))) ∧ ∀ (α : Type) (k0 : Option α) k1, mac_Parse_L0_l0 k0 k1 m (N : Int) (i : Int) nl i f N row = k1 nl' N f'
  | 0, 0, i, nl, f, hi, hm, _ => by omega
  | 0, m + 1, i, nl, f, hi, hm, _ => by
    obtain rfl : i = N := by omega
    exact ⟨nl, f, fun _ _ => rfl, fun j h1 h2 => by omega, fun α k0 k1 => step_end k0 k1 m i i nl f row⟩
  | r + 1, 0, i, nl, f, hi, hm, _ => by omega
  | r + 1, m + 1, i, nl, f, hi, hm, h => by
    have hg := h i (Nat.le_refl i) (by omega)
    obtain ⟨nl', f', k1, k2, k3⟩ := loop_good hN r m (i + 1) (nl && false) (catf i f (rowOf 1 [.val (.int .u8 (vp (textOf (row i 0))))])) (by omega) (by omega) (fun j h1 h2 => h j (by omega) h2)
    refine ⟨nl', f', fun j hj => ?_, fun j h1 h2 => ?_, fun α q0 q1 => ?_⟩
    · rw [k1 j (by omega), catf_lo hj]
    · by_cases hj : j = i
      · subst hj
        rw [k1 j (by omega)]
        have := catf_hi j f (rowOf 1 [.val (.int .u8 (vp (textOf (row j 0))))]) 0 0
        rw [Nat.add_zero] at this
        rw [this]
        rfl
      · exact k2 j (by omega) h2
    · rw [step_good q0 q1 m N i i nl f row (by omega) hN (by omega) hg, k3]
def qa (B : Int) : ByteArray := (⟨#[48, 49, 50, 51, 52, 53, 54, 55, 56, 57, 97, 98, 99, 100, 101, 102]⟩ : ByteArray).extract ((IntKind.u8.wrap (B.tdiv 16)).toNat) (((IntKind.u8.wrap (B.tdiv 16)).toNat) + (((IntKind.u8.wrap ((IntKind.u8.wrap (B.tdiv 16)) + 1)).toNat) - ((IntKind.u8.wrap (B.tdiv 16)).toNat)))
def qb (B : Int) : ByteArray := (⟨#[48, 49, 50, 51, 52, 53, 54, 55, 56, 57, 97, 98, 99, 100, 101, 102]⟩ : ByteArray).extract ((B.tmod 16).toNat) (((B.tmod 16).toNat) + (((IntKind.u8.wrap ((B.tmod 16) + 1)).toNat) - ((B.tmod 16).toNat)))
def tst2 (n : Nat) : Bool := inb (IntKind.u8.wrap ((IntKind.u8.wrap ((n : Int).tdiv 16)) + 1)) 17 && ((decide (0 ≤ IntKind.u8.wrap ((n : Int).tdiv 16)) && decide (IntKind.u8.wrap ((n : Int).tdiv 16) ≤ IntKind.u8.wrap ((IntKind.u8.wrap ((n : Int).tdiv 16)) + 1))) && (inb (IntKind.u8.wrap (((n : Int).tmod 16) + 1)) 17 && ((decide (0 ≤ (n : Int).tmod 16) && decide ((n : Int).tmod 16 ≤ IntKind.u8.wrap (((n : Int).tmod 16) + 1))) && (Nat.ble ((qa n).size + (qb n).size) 4611686018427387904 && (qa n ++ qb n).data.toList == [H (n / 16), H (n % 16)]))))
theorem all256r : ((List.range 256).all tst2) = true := by kernel_rfl
structure Byte2 (B : Int) (n : Nat) : Prop where
  c1 : inb (IntKind.u8.wrap ((IntKind.u8.wrap (B.tdiv 16)) + 1)) 17 = true
  c2 : (decide (0 ≤ IntKind.u8.wrap (B.tdiv 16)) && decide (IntKind.u8.wrap (B.tdiv 16) ≤ IntKind.u8.wrap ((IntKind.u8.wrap (B.tdiv 16)) + 1))) = true
  c3 : inb (IntKind.u8.wrap ((B.tmod 16) + 1)) 17 = true
  c4 : (decide (0 ≤ B.tmod 16) && decide (B.tmod 16 ≤ IntKind.u8.wrap ((B.tmod 16) + 1))) = true
  c5 : Nat.ble ((qa B).size + (qb B).size) 4611686018427387904 = true
  p : qa B ++ qb B = ⟨#[H (n / 16), H (n % 16)]⟩
theorem ba_ext {a : ByteArray} {l : List UInt8} (h : a.data.toList = l) : a = ⟨l.toArray⟩ := by
  obtain ⟨⟨a⟩⟩ := a
  subst h
  rfl
theorem byte2_ok {B : Int} {n : Nat} (e : B = (n : Int)) (h : n < 256) : Byte2 B n := by
  subst e
  have := List.all_eq_true.1 all256r n (List.mem_range.2 h)
  simp only [tst2, Bool.and_eq_true] at this
  obtain ⟨h1, h2, h3, h4, h5, h6⟩ := this
  exact ⟨h1, by simpa using h2, h3, by simpa using h4, h5, ba_ext (by simpa using h6)⟩
theorem wx (X : Nat) : IntKind.u8.wrap (X : Int) = ((b0' X : Nat) : Int) := by rw [wrap_u8]; unfold b0'; omega
theorem ref_text (X : Nat) (hX : X < 281474976710656) (α : Type) (k0 : ByteArray → Option α) : ref09_Text (X : Int) k0 = k0 ⟨(tl X).toArray⟩ := by
  have f5 := byte2_ok (w40 X) (by unfold b5; omega)
  have f4 := byte2_ok (w32 X) (by unfold b4; omega)
  have f3 := byte2_ok (w24 X) (by unfold b3; omega)
  have f2 := byte2_ok (w16 X) (by unfold b2; omega)
  have f1 := byte2_ok (w8 X) (by unfold b1; omega)
  have f0 := byte2_ok (wx X) (by unfold b0'; omega)
  have s5 : Nat.ble ((e42 X).size + (e43 X).size) 4611686018427387904 = true := f5.c5
  have s4 : Nat.ble ((e44 X).size + (e45 X).size) 4611686018427387904 = true := f4.c5
  have s3 : Nat.ble ((e47 X).size + (e48 X).size) 4611686018427387904 = true := f3.c5
  have s2 : Nat.ble ((e50 X).size + (e51 X).size) 4611686018427387904 = true := f2.c5
  have s1 : Nat.ble ((e52 X).size + (e53 X).size) 4611686018427387904 = true := f1.c5
  have s0 : Nat.ble ((e55 X).size + (e56 X).size) 4611686018427387904 = true := f0.c5
  have p5 : (e42 X) ++ (e43 X) = ⟨#[H (b5 X / 16), H (b5 X % 16)]⟩ := f5.p
  have p4 : (e44 X) ++ (e45 X) = ⟨#[H (b4 X / 16), H (b4 X % 16)]⟩ := f4.p
  have p3 : (e47 X) ++ (e48 X) = ⟨#[H (b3 X / 16), H (b3 X % 16)]⟩ := f3.p
  have p2 : (e50 X) ++ (e51 X) = ⟨#[H (b2 X / 16), H (b2 X % 16)]⟩ := f2.p
  have p1 : (e52 X) ++ (e53 X) = ⟨#[H (b1 X / 16), H (b1 X % 16)]⟩ := f1.p
  have p0 : (e55 X) ++ (e56 X) = ⟨#[H (b0' X / 16), H (b0' X % 16)]⟩ := f0.p
  have q16 : e46 X = ⟨#[H (b5 X / 16), H (b5 X % 16), 58, H (b4 X / 16), H (b4 X % 16)]⟩ := by unfold e46; rw [p5, p4]; rfl
  have q19 : e49 X = ⟨#[H (b5 X / 16), H (b5 X % 16), 58, H (b4 X / 16), H (b4 X % 16), 58, H (b3 X / 16), H (b3 X % 16), 58]⟩ := by unfold e49; rw [q16, p3]; rfl
  have q24 : e54 X = ⟨#[H (b5 X / 16), H (b5 X % 16), 58, H (b4 X / 16), H (b4 X % 16), 58, H (b3 X / 16), H (b3 X % 16), 58, H (b2 X / 16), H (b2 X % 16), 58, H (b1 X / 16), H (b1 X % 16)]⟩ := by unfold e54; rw [q19, p2, p1]; rfl
  unfold ref09_Text ref09_Text_T
  rw [dec_t (show (X : Int) < 281474976710656 by omega)]
  rw [f5.c1, f5.c2, f5.c3, f5.c4, s5, f4.c1, f4.c2, f4.c3, f4.c4, s4, f3.c1, f3.c2, f3.c3, f3.c4, s3, f2.c1, f2.c2, f2.c3, f2.c4, s2, f1.c1, f1.c2, f1.c3, f1.c4, s1, f0.c1, f0.c2, f0.c3, f0.c4, s0, p5, p4, p3, p2, p1, p0, q16, q19, q24]
  rfl
def S (r : Nat → Nat → PV) : Int := ((((numOf (r 0 0) * 256 + numOf (r 1 0)) * 256 + numOf (r 2 0)) * 256 + numOf (r 3 0)) * 256 + numOf (r 4 0)) * 256 + numOf (r 5 0)
theorem of0 {α : Type} (k0 : Int → Option α) (m : Nat) (x : Int) (nl : Bool) (r : Nat → Nat → PV) : mac_Of_L0_l0 k0 (m + 1) x nl 6 r 6 0 = mac_Of_L0_l0 k0 m (bits .or .u64 (shlI .u64 x 8) (IntKind.u64.wrap (numOf (r 0 0)))) nl 6 r 6 1 := by kernel_rfl
theorem of1 {α : Type} (k0 : Int → Option α) (m : Nat) (x : Int) (nl : Bool) (r : Nat → Nat → PV) : mac_Of_L0_l0 k0 (m + 1) x nl 6 r 6 1 = mac_Of_L0_l0 k0 m (bits .or .u64 (shlI .u64 x 8) (IntKind.u64.wrap (numOf (r 1 0)))) nl 6 r 6 2 := by kernel_rfl
theorem of2 {α : Type} (k0 : Int → Option α) (m : Nat) (x : Int) (nl : Bool) (r : Nat → Nat → PV) : mac_Of_L0_l0 k0 (m + 1) x nl 6 r 6 2 = mac_Of_L0_l0 k0 m (bits .or .u64 (shlI .u64 x 8) (IntKind.u64.wrap (numOf (r 2 0)))) nl 6 r 6 3 := by kernel_rfl
theorem of3 {α : Type} (k0 : Int → Option α) (m : Nat) (x : Int) (nl : Bool) (r : Nat → Nat → PV) : mac_Of_L0_l0 k0 (m + 1) x nl 6 r 6 3 = mac_Of_L0_l0 k0 m (bits .or .u64 (shlI .u64 x 8) (IntKind.u64.wrap (numOf (r 3 0)))) nl 6 r 6 4 := by kernel_rfl
theorem of4 {α : Type} (k0 : Int → Option α) (m : Nat) (x : Int) (nl : Bool) (r : Nat → Nat → PV) : mac_Of_L0_l0 k0 (m + 1) x nl 6 r 6 4 = mac_Of_L0_l0 k0 m (bits .or .u64 (shlI .u64 x 8) (IntKind.u64.wrap (numOf (r 4 0)))) nl 6 r 6 5 := by kernel_rfl
theorem of5 {α : Type} (k0 : Int → Option α) (m : Nat) (x : Int) (nl : Bool) (r : Nat → Nat → PV) : mac_Of_L0_l0 k0 (m + 1) x nl 6 r 6 5 = mac_Of_L0_l0 k0 m (bits .or .u64 (shlI .u64 x 8) (IntKind.u64.wrap (numOf (r 5 0)))) nl 6 r 6 6 := by kernel_rfl
theorem of6 {α : Type} (k0 : Int → Option α) (m : Nat) (x : Int) (nl : Bool) (r : Nat → Nat → PV) : mac_Of_L0_l0 k0 (m + 1) x nl 6 r 6 6 = k0 x := by kernel_rfl
theorem mac_of (nl : Bool) (r : Nat → Nat → PV) (h : ∀ j, j < 6 → 0 ≤ numOf (r j 0) ∧ numOf (r j 0) ≤ 255) (α : Type) (k : Int → Int → Option α) : mac_Of nl 6 r k = k (S r) 0 := by
  have h0 := h 0 (by omega)
  have h1 := h 1 (by omega)
  have h2 := h 2 (by omega)
  have h3 := h 3 (by omega)
  have h4 := h 4 (by omega)
  have h5 := h 5 (by omega)
  have e : mac_Of nl 6 r k = mac_Of_L0_l0 (fun x => k x 0) (1152921504606846969 + 1 + 1 + 1 + 1 + 1 + 1 + 1) 0 nl 6 r 6 0 := by kernel_rfl
  rw [e, of0, of1, of2, of3, of4, of5, of6]
  unfold S
  rw [orv 0 _ (by omega) (by omega) (by omega) (by omega), show (0 : Int) * 256 + numOf (r 0 0) = numOf (r 0 0) by omega]
  rw [orv (numOf (r 0 0)) (numOf (r 1 0)) (by omega) (by omega) (by omega) (by omega), orv (numOf (r 0 0) * 256 + numOf (r 1 0)) (numOf (r 2 0)) (by omega) (by omega) (by omega) (by omega), orv ((numOf (r 0 0) * 256 + numOf (r 1 0)) * 256 + numOf (r 2 0)) (numOf (r 3 0)) (by omega) (by omega) (by omega) (by omega), orv (((numOf (r 0 0) * 256 + numOf (r 1 0)) * 256 + numOf (r 2 0)) * 256 + numOf (r 3 0)) (numOf (r 4 0)) (by omega) (by omega) (by omega) (by omega), orv ((((numOf (r 0 0) * 256 + numOf (r 1 0)) * 256 + numOf (r 2 0)) * 256 + numOf (r 3 0)) * 256 + numOf (r 4 0)) (numOf (r 5 0)) (by omega) (by omega) (by omega) (by omega)]
theorem mac_no (nl : Bool) (N : Nat) (hN : N ≠ 6) (r : Nat → Nat → PV) (α : Type) (k : Int → Int → Option α) : mac_Of nl N r k = k 0 11 := by
  unfold mac_Of mac_Of_T
  rw [show ((N : Int) != 6) = true from bne_iff_ne.2 (by omega), cond_true]
theorem split_step (x y : UInt8) (r : List UInt8) (hx : x ≠ 58) (hy : y ≠ 58) (k : Nat) : Lib.splitK [58] 0 (k + 1) (x :: y :: 58 :: r) = [x, y] :: Lib.splitK [58] 0 k r := by
  have h : Lib.index (x :: y :: 58 :: r) [58] = 2 := by
    rw [Lib.index_one]
    simp [Lib.indexByte, hx, hy]
  rw [Lib.splitK, h]
  rfl
theorem cnt_step (x y : UInt8) (r : List UInt8) (hx : x ≠ 58) (hy : y ≠ 58) : (x :: y :: 58 :: r).count 58 = r.count 58 + 1 := by
  simp [List.count_cons, hx, hy]
theorem Hne {n : Nat} (h : n < 16) : H n ≠ 58 := (undig_ok n h).2
def six' (v : Nat) : List ByteArray := [⟨#[H (b5 v / 16), H (b5 v % 16)]⟩, ⟨#[H (b4 v / 16), H (b4 v % 16)]⟩, ⟨#[H (b3 v / 16), H (b3 v % 16)]⟩, ⟨#[H (b2 v / 16), H (b2 v % 16)]⟩, ⟨#[H (b1 v / 16), H (b1 v % 16)]⟩, ⟨#[H (b0' v / 16), H (b0' v % 16)]⟩]
theorem text_pieces (X : Nat) : splitL ⟨(tl X).toArray⟩ ⟨#[58]⟩ = six' X := by
  have l5 : b5 X < 256 := by unfold b5; omega
  have l4 : b4 X < 256 := by unfold b4; omega
  have l3 : b3 X < 256 := by unfold b3; omega
  have l2 : b2 X < 256 := by unfold b2; omega
  have l1 : b1 X < 256 := by unfold b1; omega
  have l0 : b0' X < 256 := by unfold b0'; omega
  rw [splitL_eq]
  show (Lib.splitK [58] 0 ((tl X).count 58) (tl X)).map (fun l => (⟨l.toArray⟩ : ByteArray)) = _
  have hc : (tl X).count 58 = 5 := by
    unfold tl
    rw [cnt_step _ _ _ (Hne (by omega)) (Hne (by omega)), cnt_step _ _ _ (Hne (by omega)) (Hne (by omega)), cnt_step _ _ _ (Hne (by omega)) (Hne (by omega)), cnt_step _ _ _ (Hne (by omega)) (Hne (by omega)), cnt_step _ _ _ (Hne (by omega)) (Hne (by omega))]
    simp [List.count_cons, Hne (show b0' X / 16 < 16 by omega), Hne (show b0' X % 16 < 16 by omega)]
  rw [hc]
  unfold tl
  rw [split_step _ _ _ (Hne (by omega)) (Hne (by omega)), split_step _ _ _ (Hne (by omega)) (Hne (by omega)), split_step _ _ _ (Hne (by omega)) (Hne (by omega)), split_step _ _ _ (Hne (by omega)) (Hne (by omega)), split_step _ _ _ (Hne (by omega)) (Hne (by omega))]
  rfl
theorem split_len (s : ByteArray) (hs : s.size ≤ 200) : splitN s ⟨#[58]⟩ ≤ 201 := by
  have h1 := Lib.splitB_all ⟨#[58]⟩ (Nat.le_refl 1) 0 _ s rfl
  have h2 := Lib.countB_le ⟨#[58]⟩ (Nat.le_refl 1) s.size s (Nat.le_refl _)
  unfold splitN splitL
  omega
theorem parse_open (s : ByteArray) (hs : s.size ≤ 200) (α : Type) (k : Int → Int → Option α) : mac_Parse s k = mac_Parse_L0_l0 (k 0 11) (fun nl n f => mac_Of nl n f k) 18446744073709551616 ((splitN s ⟨#[58]⟩ : Nat) : Int) ((0 : Nat) : Int) true 0 (fun _ _ => .val undef) (splitN s ⟨#[58]⟩) (splitRow s ⟨#[58]⟩) := by
  unfold mac_Parse mac_Parse_T
  rw [show splitOk s ⟨#[58]⟩ = true by unfold splitOk; rw [ble_true (show s.size ≤ 4294967280 by omega)]; rfl, cond_true]
  rfl
theorem parse_six (s : ByteArray) (hs : s.size ≤ 200) (p0 p1 p2 p3 p4 p5 : ByteArray) (h : splitL s ⟨#[58]⟩ = [p0, p1, p2, p3, p4, p5]) (g0 : gp p0 = true) (g1 : gp p1 = true) (g2 : gp p2 = true) (g3 : gp p3 = true) (g4 : gp p4 = true) (g5 : gp p5 = true) (v : Nat) (hv : (v : Int) = ((((vp p0 * 256 + vp p1) * 256 + vp p2) * 256 + vp p3) * 256 + vp p4) * 256 + vp p5)
    (hb : ∀ p, p ∈ [p0, p1, p2, p3, p4, p5] → 0 ≤ vp p ∧ vp p ≤ 255) (α : Type) (k : Int → Int → Option α) : mac_Parse s k = k (v : Int) 0 := by
  have hN : splitN s ⟨#[58]⟩ = 6 := by unfold splitN; rw [h]; rfl
  have ht : ∀ j, textOf (splitRow s ⟨#[58]⟩ j 0) = [p0, p1, p2, p3, p4, p5].getD j ⟨#[]⟩ := fun j => by show (splitL s ⟨#[58]⟩).getD j ⟨#[]⟩ = _; rw [h]
  obtain ⟨nl, f, _, q2, q3⟩ := loop_good (N := 6) (row := splitRow s ⟨#[58]⟩) (by omega) 6 18446744073709551616 0 true (fun _ _ => .val undef) (by omega) (by omega) (fun j _ hj => by
    rw [ht]
    match j, hj with
    | 0, _ => exact g0
    | 1, _ => exact g1
    | 2, _ => exact g2
    | 3, _ => exact g3
    | 4, _ => exact g4
    | 5, _ => exact g5)
  have e : ∀ j, j < 6 → numOf (f j 0) = vp ([p0, p1, p2, p3, p4, p5].getD j ⟨#[]⟩) := fun j hj => by rw [q2 j (Nat.zero_le j) hj, ht]
  rw [parse_open s hs, hN, q3, mac_of nl f (fun j hj => by
    rw [e j hj]
    refine hb _ ?_
    match j, hj with
    | 0, _ => simp
    | 1, _ => simp
    | 2, _ => simp
    | 3, _ => simp
    | 4, _ => simp
    | 5, _ => simp)]
  congr 1
  unfold S
  rw [e 0 (by omega), e 1 (by omega), e 2 (by omega), e 3 (by omega), e 4 (by omega), e 5 (by omega)]
  exact hv.symm
theorem parse_text (X : Nat) (hX : X < 281474976710656) (α : Type) (k : Int → Int → Option α) : mac_Parse ⟨(tl X).toArray⟩ k = k (X : Int) 0 := by
  have l5 : b5 X < 256 := by unfold b5; omega
  have l4 : b4 X < 256 := by unfold b4; omega
  have l3 : b3 X < 256 := by unfold b3; omega
  have l2 : b2 X < 256 := by unfold b2; omega
  have l1 : b1 X < 256 := by unfold b1; omega
  have l0 : b0' X < 256 := by unfold b0'; omega
  obtain ⟨g5, v5⟩ := gp_of (show b5 X / 16 < 16 by omega) (show b5 X % 16 < 16 by omega)
  obtain ⟨g4, v4⟩ := gp_of (show b4 X / 16 < 16 by omega) (show b4 X % 16 < 16 by omega)
  obtain ⟨g3, v3⟩ := gp_of (show b3 X / 16 < 16 by omega) (show b3 X % 16 < 16 by omega)
  obtain ⟨g2, v2⟩ := gp_of (show b2 X / 16 < 16 by omega) (show b2 X % 16 < 16 by omega)
  obtain ⟨g1, v1⟩ := gp_of (show b1 X / 16 < 16 by omega) (show b1 X % 16 < 16 by omega)
  obtain ⟨g0, v0⟩ := gp_of (show b0' X / 16 < 16 by omega) (show b0' X % 16 < 16 by omega)
  refine parse_six ⟨(tl X).toArray⟩ (by show 17 ≤ 200; omega) _ _ _ _ _ _ (text_pieces X) g5 g4 g3 g2 g1 g0 X ?_ ?_ α k
  · rw [v5, v4, v3, v2, v1, v0]
    unfold b5 b4 b3 b2 b1 b0'
    omega
  · intro p hp
    simp only [List.mem_cons, List.not_mem_nil, or_false] at hp
    rcases hp with rfl | rfl | rfl | rfl | rfl | rfl
    · rw [v5]; omega
    · rw [v4]; omega
    · rw [v3]; omega
    · rw [v2]; omega
    · rw [v1]; omega
    · rw [v0]; omega
theorem parse_cases (s : ByteArray) (hs : s.size ≤ 200) : (∀ (α : Type) (k : Int → Int → Option α), mac_Parse s k = k 0 11) ∨ ∃ v : Nat, v < 281474976710656 ∧ s.data.toList = tl v ∧ ∀ (α : Type) (k : Int → Int → Option α), mac_Parse s k = k (v : Int) 0 := by
  have hN := split_len s hs
  by_cases hbad : ∃ j, 0 ≤ j ∧ j < splitN s ⟨#[58]⟩ ∧ gp (textOf (splitRow s ⟨#[58]⟩ j 0)) = false
  · refine .inl fun α k => ?_
    rw [parse_open s hs]
    exact loop_bad (by omega) (splitN s ⟨#[58]⟩) _ 0 _ _ (by omega) (by omega) hbad α _ _
  have hgood : ∀ j, 0 ≤ j → j < splitN s ⟨#[58]⟩ → gp (textOf (splitRow s ⟨#[58]⟩ j 0)) = true := fun j h0 h1 => by
    cases hg : gp (textOf (splitRow s ⟨#[58]⟩ j 0)) with
    | true => rfl
    | false => exact absurd ⟨j, h0, h1, hg⟩ hbad
  by_cases h6 : splitN s ⟨#[58]⟩ = 6
  rotate_left
  · refine .inl fun α k => ?_
    obtain ⟨nl, f, _, _, q3⟩ := loop_good (by omega) (splitN s ⟨#[58]⟩) 18446744073709551616 0 true (fun _ _ => .val undef) (by omega) (by omega) hgood
    rw [parse_open s hs, q3, mac_no nl _ h6]
  · have hd := Lib.splitB_data ⟨#[58]⟩ 0 (Lib.countB s ⟨#[58]⟩) s
    have hj := splitK_join 58 (Lib.countB s ⟨#[58]⟩) s.data.toList
    rw [show (⟨#[58]⟩ : ByteArray).data.toList = [58] from rfl] at hd
    rw [← hd] at hj
    have hl : (splitL s ⟨#[58]⟩).length = 6 := h6
    have hg : ∀ j, j < 6 → gp ((splitL s ⟨#[58]⟩).getD j ⟨#[]⟩) = true := fun j h => hgood j (Nat.zero_le j) (by rw [h6]; exact h)
    change Lib.join ((splitL s ⟨#[58]⟩).map (·.data.toList)) [58] = s.data.toList at hj
    generalize hL : splitL s ⟨#[58]⟩ = L at *
    match L, hl with
    | [p0, p1, p2, p3, p4, p5], _ =>
      have g0 : gp p0 = true := hg 0 (by omega)
      have g1 : gp p1 = true := hg 1 (by omega)
      have g2 : gp p2 = true := hg 2 (by omega)
      have g3 : gp p3 = true := hg 3 (by omega)
      have g4 : gp p4 = true := hg 4 (by omega)
      have g5 : gp p5 = true := hg 5 (by omega)
      obtain ⟨n0, m0, x0, y0, rfl⟩ := of_gp g0
      obtain ⟨n1, m1, x1, y1, rfl⟩ := of_gp g1
      obtain ⟨n2, m2, x2, y2, rfl⟩ := of_gp g2
      obtain ⟨n3, m3, x3, y3, rfl⟩ := of_gp g3
      obtain ⟨n4, m4, x4, y4, rfl⟩ := of_gp g4
      obtain ⟨n5, m5, x5, y5, rfl⟩ := of_gp g5
      have w0 := (gp_of x0 y0).2
      have w1 := (gp_of x1 y1).2
      have w2 := (gp_of x2 y2).2
      have w3 := (gp_of x3 y3).2
      have w4 := (gp_of x4 y4).2
      have w5 := (gp_of x5 y5).2
      let v : Nat := (((((n0 * 16 + m0) * 256 + (n1 * 16 + m1)) * 256 + (n2 * 16 + m2)) * 256 + (n3 * 16 + m3)) * 256 + (n4 * 16 + m4)) * 256 + (n5 * 16 + m5)
      have hv : v = (((((n0 * 16 + m0) * 256 + (n1 * 16 + m1)) * 256 + (n2 * 16 + m2)) * 256 + (n3 * 16 + m3)) * 256 + (n4 * 16 + m4)) * 256 + (n5 * 16 + m5) := rfl
      have r5 : b5 v = n0 * 16 + m0 := by unfold b5; omega
      have r4 : b4 v = n1 * 16 + m1 := by unfold b4; omega
      have r3 : b3 v = n2 * 16 + m2 := by unfold b3; omega
      have r2 : b2 v = n3 * 16 + m3 := by unfold b2; omega
      have r1 : b1 v = n4 * 16 + m4 := by unfold b1; omega
      have r0 : b0' v = n5 * 16 + m5 := by unfold b0'; omega
      refine .inr ⟨v, by omega, ?_, fun α k => ?_⟩
      · rw [← hj]
        unfold tl
        rw [r5, r4, r3, r2, r1, r0]
        rw [show (n0 * 16 + m0) / 16 = n0 by omega, show (n0 * 16 + m0) % 16 = m0 by omega, show (n1 * 16 + m1) / 16 = n1 by omega, show (n1 * 16 + m1) % 16 = m1 by omega, show (n2 * 16 + m2) / 16 = n2 by omega, show (n2 * 16 + m2) % 16 = m2 by omega, show (n3 * 16 + m3) / 16 = n3 by omega, show (n3 * 16 + m3) % 16 = m3 by omega, show (n4 * 16 + m4) / 16 = n4 by omega, show (n4 * 16 + m4) % 16 = m4 by omega, show (n5 * 16 + m5) / 16 = n5 by omega, show (n5 * 16 + m5) % 16 = m5 by omega]
        rfl
      · refine parse_six s hs _ _ _ _ _ _ hL g0 g1 g2 g3 g4 g5 v ?_ ?_ α k
        · rw [w0, w1, w2, w3, w4, w5, hv]
          omega
        · intro p hp
          simp only [List.mem_cons, List.not_mem_nil, or_false] at hp
          rcases hp with rfl | rfl | rfl | rfl | rfl | rfl
          · rw [w0]; omega
          · rw [w1]; omega
          · rw [w2]; omega
          · rw [w3]; omega
          · rw [w4]; omega
          · rw [w5]; omega
def res (c : Nat) (k : Nat) : Int := bif decide (0 ≤ Lib.indexByte D c.toUInt8) && decide (Lib.indexByte D c.toUInt8 < (k : Int)) then Lib.indexByte D c.toUInt8 else -1
def rstep : Bool := (List.range 256).all fun c => (List.range 16).all fun k => (bif (e61 (k : Int) == (c : Int)) then (k : Int) else res c k) == res c (k + 1)
theorem rstep_ok : rstep = true := by kernel_rfl
def rlast : Bool := (List.range 256).all fun c => res c 16 == Lib.indexByte D c.toUInt8 && res c 0 == -1
theorem rlast_ok : rlast = true := by kernel_rfl
theorem res_step (c : UInt8) (k : Nat) (hk : k < 16) : (bif (e61 (k : Int) == ((c.toNat : Nat) : Int)) then (k : Int) else res c.toNat k) = res c.toNat (k + 1) := by
  have := List.all_eq_true.1 (List.all_eq_true.1 rstep_ok c.toNat (List.mem_range.2 c.toNat_lt)) k (List.mem_range.2 hk)
  exact eq_of_beq this
theorem res_last (c : UInt8) : res c.toNat 16 = Lib.indexByte D c ∧ res c.toNat 0 = -1 := by
  have := List.all_eq_true.1 rlast_ok c.toNat (List.mem_range.2 c.toNat_lt)
  rw [show c.toNat.toUInt8 = c from UInt8.ofNat_toNat] at this
  simpa using this
theorem inner {α : Type} (k0 : ByteArray → Int → Int → Int → Option α) (s : ByteArray) (w : Int) (i : Nat) (c : UInt8) (hi : i < s.size) (hc : bt s (i : Int) = ((c.toNat : Nat) : Int)) : ∀ (r m k : Nat), k + r = 16 → r < m → ref09_Parse_L2_v1_l0 k0 m s w (i : Int) (res c.toNat k) (k : Int) = k0 s w (i : Int) (Lib.indexByte D c)
  | _, 0, _, _, hm => by omega
  | 0, m + 1, k, hk, hm => by
    obtain rfl : k = 16 := by omega
    show ref09_Parse_L2_v1_s0 (ref09_Parse_L2_v1_l0 k0 m) k0 s w (i : Int) _ ((16 : Nat) : Int) = _
    unfold ref09_Parse_L2_v1_s0
    rw [dec_f (show ¬ ((16 : Nat) : Int) < 16 by omega), cond_false, (res_last c).1]
  | r + 1, m + 1, k, hk, hm => by
    have ih := inner k0 s w i c hi hc r m (k + 1) (by omega) (by omega)
    show ref09_Parse_L2_v1_s0 (ref09_Parse_L2_v1_l0 k0 m) k0 s w (i : Int) _ (k : Int) = _
    unfold ref09_Parse_L2_v1_s0
    rw [dec_t (show (k : Int) < 16 by omega), inb_t (show (0 : Int) ≤ (k : Int) by omega) (show (k : Int) < ((16 : Nat) : Int) by omega), inb_t (show (0 : Int) ≤ (i : Int) by omega) (show (i : Int) < ((s.size : Nat) : Int) by omega), cond_true, cond_true, cond_true, hc, i64_id (by omega) (by omega)]
    have hs := res_step c k (by omega)
    rw [← hs] at ih
    rw [show ((k + 1 : Nat) : Int) = (k : Int) + 1 by omega] at ih
    cases hb : (e61 (k : Int) == ((c.toNat : Nat) : Int)) with
    | true => rw [hb, cond_true] at ih; exact ih
    | false => rw [hb, cond_false] at ih; exact ih
theorem outer_end {α : Type} (k0 : Option α) (k1 : ByteArray → Int → Option α) (m : Nat) (s : ByteArray) (w : Int) : ref09_Parse_L0_l0 k0 k1 (m + 1) s w ((17 : Nat) : Int) = k1 s w := by
  show ref09_Parse_L0_s0 ref09_Parse_L2_v1 (ref09_Parse_L0_l0 k0 k1 m) k0 k1 s w ((17 : Nat) : Int) = _
  unfold ref09_Parse_L0_s0
  rw [dec_f (show ¬ ((17 : Nat) : Int) < 17 by omega), cond_false]
theorem outer_skip {α : Type} (k0 : Option α) (k1 : ByteArray → Int → Option α) (m i : Nat) (s : ByteArray) (w : Int) (hi : i < 17) (h3 : i % 3 = 2) : ref09_Parse_L0_l0 k0 k1 (m + 1) s w (i : Int) = ref09_Parse_L0_l0 k0 k1 m s w ((i + 1 : Nat) : Int) := by
  show ref09_Parse_L0_s0 ref09_Parse_L2_v1 (ref09_Parse_L0_l0 k0 k1 m) k0 k1 s w (i : Int) = _
  unfold ref09_Parse_L0_s0
  rw [dec_t (show (i : Int) < 17 by omega), cond_true, show ((i : Int).tmod 3 == 2) = true by rw [Int.tmod_eq_emod_of_nonneg (by omega), beq_iff_eq]; omega, cond_true, i64_id (by omega) (by omega)]
  rfl
theorem outer_dig {α : Type} (k0 : Option α) (k1 : ByteArray → Int → Option α) (m i : Nat) (s : ByteArray) (w : Int) (hi : i < 17) (hs : s.size = 17) (h3 : i % 3 ≠ 2) (c : UInt8) (hc : bt s (i : Int) = ((c.toNat : Nat) : Int)) (h0 : 0 ≤ w) (h1 : w < 281474976710656) : ref09_Parse_L0_l0 k0 k1 (m + 1) s w (i : Int) = bif decide (Lib.indexByte D c < 0) then k0 else ref09_Parse_L0_l0 k0 k1 m s (w * 16 + Lib.indexByte D c) ((i + 1 : Nat) : Int) := by
  show ref09_Parse_L0_s0 ref09_Parse_L2_v1 (ref09_Parse_L0_l0 k0 k1 m) k0 k1 s w (i : Int) = _
  unfold ref09_Parse_L0_s0
  rw [dec_t (show (i : Int) < 17 by omega), cond_true, show ((i : Int).tmod 3 == 2) = false by rw [Int.tmod_eq_emod_of_nonneg (by omega), beq_eq_false_iff_ne]; omega, cond_false]
  unfold ref09_Parse_L2_v1
  have hin := fun (q : ByteArray → Int → Int → Int → Option α) => inner q s w i c (by omega) hc 16 18446744073709551616 0 (by omega) (by omega)
  rw [(res_last c).2] at hin
  refine (hin _).trans ?_
  by_cases hb : Lib.indexByte D c < 0
  · rw [dec_t hb]; rfl
  · obtain ⟨n, hn, e, _⟩ := dig_ok c (by omega)
    rw [dec_f hb, cond_false, cond_false, e, i64_id (by omega) (by omega), u64_id (n := w * 16) (by omega) (by omega), u64_id (n := (n : Int)) (by omega) (by omega), u64_id (by omega) (by omega)]
    rfl
theorem outer1 (s : ByteArray) (hs : s.size = 17) (hb : ∀ i : Nat, i < 17 → ∃ c : UInt8, bt s (i : Int) = ((c.toNat : Nat) : Int)) : ∀ (r m i w : Nat), i + r = 17 → r < m → w < 16 ^ (i - i / 3) → (∀ (α : Type) (k0 : Option α) k1, ref09_Parse_L0_l0 k0 k1 m s (w : Int) (i : Int) = k0) ∨ ∃ w' : Nat, w' < 281474976710656 ∧ ∀ (α : Type) (k0 : Option α) k1, ref09_Parse_L0_l0 k0 k1 m s (w : Int) (i : Int) = k1 s (w' : Int)
  | _, 0, _, _, _, hm, _ => by omega
  | 0, m + 1, i, w, hi, hm, hw => by
    obtain rfl : i = 17 := by omega
    exact .inr ⟨w, by simpa using hw, fun α k0 k1 => outer_end k0 k1 m s w⟩
  | r + 1, m + 1, i, w, hi, hm, hw => by
    by_cases h3 : i % 3 = 2
    · have ih := outer1 s hs hb r m (i + 1) w (by omega) (by omega) (by rw [show i + 1 - (i + 1) / 3 = i - i / 3 by omega]; exact hw)
      rcases ih with ih | ⟨w', h1, ih⟩
      · exact .inl fun α k0 k1 => by rw [outer_skip k0 k1 m i s w (by omega) h3, ih]
      · exact .inr ⟨w', h1, fun α k0 k1 => by rw [outer_skip k0 k1 m i s w (by omega) h3, ih]⟩
    · obtain ⟨c, hc⟩ := hb i (by omega)
      have hp : 16 ^ (i - i / 3) ≤ 16 ^ 12 := Nat.pow_le_pow_right (by omega) (by omega)
      rw [show (16 : Nat) ^ 12 = 281474976710656 by decide] at hp
      have hd := fun (α : Type) (k0 : Option α) k1 => outer_dig k0 k1 m i s w (by omega) hs h3 c hc (by omega) (by omega)
      by_cases hn : Lib.indexByte D c < 0
      · exact .inl fun α k0 k1 => by rw [hd, dec_t hn, cond_true]
      · obtain ⟨n, hn1, e, _⟩ := dig_ok c (by omega)
        have hw2 : w * 16 + n < 16 ^ (i + 1 - (i + 1) / 3) := by
          rw [show i + 1 - (i + 1) / 3 = (i - i / 3) + 1 by omega, Nat.pow_succ]
          omega
        have ih := outer1 s hs hb r m (i + 1) (w * 16 + n) (by omega) (by omega) hw2
        rw [show ((w * 16 + n : Nat) : Int) = (w : Int) * 16 + (n : Int) by omega] at ih
        rcases ih with ih | ⟨w', h1, ih⟩
        · exact .inl fun α k0 k1 => by rw [hd, dec_f hn, cond_false, e, ih]
        · exact .inr ⟨w', h1, fun α k0 k1 => by rw [hd, dec_f hn, cond_false, e, ih]⟩
def hz (n : Nat → Nat) : Nat → Nat → Nat → Nat
  | _, w, 0 => w
  | i, w, r + 1 => bif Nat.beq (i % 3) 2 then hz n (i + 1) w r else hz n (i + 1) (w * 16 + n i) r
theorem outer2 (s : ByteArray) (hs : s.size = 17) (n : Nat → Nat) (hb : ∀ i : Nat, i < 17 → i % 3 ≠ 2 → n i < 16 ∧ bt s (i : Int) = (((H (n i)).toNat : Nat) : Int)) : ∀ (r m i w : Nat), i + r = 17 → r < m → w < 16 ^ (i - i / 3) → ∀ (α : Type) (k0 : Option α) k1, ref09_Parse_L0_l0 k0 k1 m s (w : Int) (i : Int) = k1 s ((hz n i w r : Nat) : Int)
  | _, 0, _, _, _, hm, _ => by omega
  | 0, m + 1, i, w, hi, hm, hw => by
    obtain rfl : i = 17 := by omega
    exact fun α k0 k1 => outer_end k0 k1 m s w
  | r + 1, m + 1, i, w, hi, hm, hw => by
    intro α k0 k1
    by_cases h3 : i % 3 = 2
    · have ih := outer2 s hs n hb r m (i + 1) w (by omega) (by omega) (by rw [show i + 1 - (i + 1) / 3 = i - i / 3 by omega]; exact hw) α k0 k1
      rw [outer_skip k0 k1 m i s w (by omega) h3, ih, hz, h3]
      rfl
    · obtain ⟨hn1, hc⟩ := hb i (by omega) h3
      have hp : 16 ^ (i - i / 3) ≤ 16 ^ 12 := Nat.pow_le_pow_right (by omega) (by omega)
      rw [show (16 : Nat) ^ 12 = 281474976710656 by decide] at hp
      have e := (undig_ok (n i) hn1).1
      have hw2 : w * 16 + n i < 16 ^ (i + 1 - (i + 1) / 3) := by
        rw [show i + 1 - (i + 1) / 3 = (i - i / 3) + 1 by omega, Nat.pow_succ]
        omega
      have ih := outer2 s hs n hb r m (i + 1) (w * 16 + n i) (by omega) (by omega) hw2 α k0 k1
      rw [show ((w * 16 + n i : Nat) : Int) = (w : Int) * 16 + (n i : Int) by omega] at ih
      rw [outer_dig k0 k1 m i s w (by omega) hs h3 _ hc (by omega) (by omega), e, dec_f (show ¬ (n i : Int) < 0 by omega), cond_false, ih, hz, show Nat.beq (i % 3) 2 = false by
        cases hq : Nat.beq (i % 3) 2 with
        | false => rfl
        | true => exact absurd (Nat.eq_of_beq_eq_true hq) h3, cond_false]
def nv (v : Nat) : Nat → Nat
  | 0 => b5 v / 16 | 1 => b5 v % 16 | 3 => b4 v / 16 | 4 => b4 v % 16 | 6 => b3 v / 16 | 7 => b3 v % 16 | 9 => b2 v / 16 | 10 => b2 v % 16 | 12 => b1 v / 16 | 13 => b1 v % 16 | 15 => b0' v / 16 | _ => b0' v % 16
theorem hz_nv (v : Nat) (hv : v < 281474976710656) : hz (nv v) 0 0 17 = v := by
  have e : hz (nv v) 0 0 17 = (((((((((((0 * 16 + b5 v / 16) * 16 + b5 v % 16) * 16 + b4 v / 16) * 16 + b4 v % 16) * 16 + b3 v / 16) * 16 + b3 v % 16) * 16 + b2 v / 16) * 16 + b2 v % 16) * 16 + b1 v / 16) * 16 + b1 v % 16) * 16 + b0' v / 16) * 16 + b0' v % 16 := by kernel_rfl
  rw [e]
  unfold b5 b4 b3 b2 b1 b0'
  omega
theorem ref_parse_text (v : Nat) (hv : v < 281474976710656) (α : Type) (k : Int → Int → Option α) : ref09_Parse ⟨(tl v).toArray⟩ k = k (v : Int) 0 := by
  have h := outer2 ⟨(tl v).toArray⟩ rfl (nv v) (fun i hi h3 => by
    match i, hi, h3 with
    | 0, _, _ => exact ⟨by show b5 v / 16 < 16; unfold b5; omega, rfl⟩
    | 1, _, _ => exact ⟨by show b5 v % 16 < 16; unfold b5; omega, rfl⟩
    | 3, _, _ => exact ⟨by show b4 v / 16 < 16; unfold b4; omega, rfl⟩
    | 4, _, _ => exact ⟨by show b4 v % 16 < 16; unfold b4; omega, rfl⟩
    | 6, _, _ => exact ⟨by show b3 v / 16 < 16; unfold b3; omega, rfl⟩
    | 7, _, _ => exact ⟨by show b3 v % 16 < 16; unfold b3; omega, rfl⟩
    | 9, _, _ => exact ⟨by show b2 v / 16 < 16; unfold b2; omega, rfl⟩
    | 10, _, _ => exact ⟨by show b2 v % 16 < 16; unfold b2; omega, rfl⟩
    | 12, _, _ => exact ⟨by show b1 v / 16 < 16; unfold b1; omega, rfl⟩
    | 13, _, _ => exact ⟨by show b1 v % 16 < 16; unfold b1; omega, rfl⟩
    | 15, _, _ => exact ⟨by show b0' v / 16 < 16; unfold b0'; omega, rfl⟩
    | 16, _, _ => exact ⟨by show b0' v % 16 < 16; unfold b0'; omega, rfl⟩
    | 2, _, h3 => exact absurd rfl h3
    | 5, _, h3 => exact absurd rfl h3
    | 8, _, h3 => exact absurd rfl h3
    | 11, _, h3 => exact absurd rfl h3
    | 14, _, h3 => exact absurd rfl h3
    | n + 17, h, _ => exact absurd h (by omega)) 17 18446744073709551616 0 0 (by omega) (by omega) (by omega) α
  rw [hz_nv v hv] at h
  unfold ref09_Parse ref09_Parse_T
  rw [show (((⟨(tl v).toArray⟩ : ByteArray).size : Int) != 17) = false from rfl, cond_false]
  refine (h _ _).trans ?_
  rw [ref_text v hv, beq_self_eq_true]
  rfl
theorem ref_parse_cases (s : ByteArray) : (∀ (α : Type) (k : Int → Int → Option α), ref09_Parse s k = k 0 11) ∨ ∃ v : Nat, v < 281474976710656 ∧ s.data.toList = tl v := by
  by_cases hs : s.size = 17
  rotate_left
  · refine .inl fun α k => ?_
    unfold ref09_Parse ref09_Parse_T
    rw [show ((s.size : Int) != 17) = true from bne_iff_ne.2 (by omega), cond_true]
  have ho : ∀ (α : Type) (k : Int → Int → Option α), ref09_Parse s k = ref09_Parse_L0_l0 (k 0 11) (fun r_2 r_3 => ref09_Text r_3 (fun r_4 => bif !(r_4.toList == r_2.toList) then k 0 11 else k r_3 0)) 18446744073709551616 s ((0 : Nat) : Int) ((0 : Nat) : Int) := by
    intro α k
    unfold ref09_Parse ref09_Parse_T
    rw [show ((s.size : Int) != 17) = false by rw [hs]; rfl, cond_false]
    rfl
  rcases outer1 s hs (fun i hi => by
    unfold bt
    rw [dif_pos (show (i : Int).toNat < s.size by rw [Int.toNat_natCast]; omega)]
    exact ⟨_, rfl⟩) 17 18446744073709551616 0 0 (by omega) (by omega) (by omega) with h | ⟨w, hw, h⟩
  · exact .inl fun α k => by rw [ho, h]
  · by_cases he : s.data.toList = tl w
    · exact .inr ⟨w, hw, he⟩
    · refine .inl fun α k => ?_
      rw [ho, h, ref_text w hw, Lib.toList_data, Lib.toList_data, show ((⟨(tl w).toArray⟩ : ByteArray).data.toList == s.data.toList) = false from beq_eq_false_iff_ne.2 fun e => he e.symm]
      rfl
theorem parse_eq (s : ByteArray) (hs : s.size ≤ 200) : ∃ v e : Int, (∀ (α : Type) (k : Int → Int → Option α), mac_Parse s k = k v e) ∧ ∀ (α : Type) (k : Int → Int → Option α), ref09_Parse s k = k v e := by
  by_cases h : ∃ v : Nat, v < 281474976710656 ∧ s.data.toList = tl v
  · obtain ⟨v, hv, e⟩ := h
    obtain rfl := ba_ext e
    exact ⟨v, 0, fun α k => parse_text v hv α k, fun α k => ref_parse_text v hv α k⟩
  · refine ⟨0, 11, ?_, ?_⟩
    · rcases parse_cases s hs with h1 | ⟨v, hv, e, _⟩
      · exact h1
      · exact absurd ⟨v, hv, e⟩ h
    · rcases ref_parse_cases s with h1 | ⟨v, hv, e⟩
      · exact h1
      · exact absurd ⟨v, hv, e⟩ h
theorem textM_eq (a : Int) (ha : 0 ≤ a) : ∃ b : ByteArray, (∀ (α : Type) (k : ByteArray → Option α), mac_Text a k = k b) ∧ ∀ (α : Type) (k : ByteArray → Option α), ref09_Text a k = k b := by
  by_cases h : a < 281474976710656
  · obtain ⟨X, rfl⟩ : ∃ X : Nat, a = (X : Int) := ⟨a.toNat, by omega⟩
    exact ⟨_, fun α k => text_ex X (by omega) α k, fun α k => ref_text X (by omega) α k⟩
  · refine ⟨⟨#[]⟩, fun α k => ?_, fun α k => ?_⟩
    · unfold mac_Text mac_Text_T
      rw [shr48 ha, dec_f h]
      rfl
    · unfold ref09_Text ref09_Text_T
      rw [dec_f h]
      rfl
structure C8 where
  what : Int
  kind : Int
  port : Int
  num : Int
  vlan : Int
  memb : Int
  tagd : Int
  mac : Int
def TB (n : Nat) (f : Nat → Nat → PV) (L : List ByteArray) : Prop := L.length = n ∧ ∀ j (h : j < L.length), textOf (f j 0) = L[j]
def w2b (l : List UInt8) : ByteArray := ⟨l.toArray⟩
theorem TB.of {n : Nat} {f : Nat → Nat → PV} {L : List (List UInt8)} (h : TL n f L) : TB n f (L.map w2b) := by
  refine ⟨by simp [h.1], fun j hj => ?_⟩
  have hj' : j < L.length := by simpa using hj
  apply bl_inj
  rw [h.2 j hj', List.getElem_map]
  rfl
theorem TB.row (n : Nat) (f : Nat → Nat → PV) : TB n f (Ve.rowL n f) := ⟨by simp [Ve.rowL], fun j h => by simp [Ve.rowL]⟩
def NB (n : Nat) (f : Nat → Nat → PV) (L : List Int) : Prop := L.length = n ∧ ∀ j (h : j < L.length), numOf (f j 0) = L[j]
theorem NB.nil (f : Nat → Nat → PV) : NB 0 f [] := ⟨rfl, fun j h => absurd h (Nat.not_lt_zero j)⟩
theorem NB.snoc {n : Nat} {f : Nat → Nat → PV} {L : List Int} (h : NB n f L) (b : Int) : NB (n + 1) (catf n f (rowOf 1 [.val (.int .i64 b)])) (L ++ [b]) := by
  refine ⟨by simp [h.1], fun j hj => ?_⟩
  simp only [List.length_append, List.length_singleton] at hj
  have hn := h.1
  by_cases hl : j < L.length
  · rw [List.getElem_append_left hl]
    have : Nat.blt j n = true := Nat.ble_eq_true_of_le (by omega)
    show numOf (bif Nat.blt j n then f j 0 else _) = _
    rw [this, cond_true]
    exact h.2 j hl
  · obtain rfl : j = L.length := by omega
    have hb : Nat.blt L.length n = false := by
      cases hh : Nat.blt L.length n with
      | false => rfl
      | true => have := Nat.le_of_ble_eq_true hh; omega
    rw [List.getElem_append_right (Nat.le_refl _)]
    show numOf (bif Nat.blt L.length n then f L.length 0 else rowOf 1 [.val (.int .i64 b)] (L.length - n) 0) = _
    rw [hb, cond_false, show L.length - n = 0 by omega]
    simp
    rfl
def macP (s : ByteArray) : Int × Int := (mac_Parse s (fun v e => some (v, e))).getD (0, 0)
theorem macP_ok (s : ByteArray) (hs : s.size ≤ 200) : (∀ (α : Type) (k : Int → Int → Option α), mac_Parse s k = k (macP s).1 (macP s).2) ∧ ∀ (α : Type) (k : Int → Int → Option α), ref09_Parse s k = k (macP s).1 (macP s).2 := by
  obtain ⟨v, e, h1, h2⟩ := parse_eq s hs
  have hm : macP s = (v, e) := by unfold macP; rw [h1]; rfl
  rw [hm]
  exact ⟨h1, h2⟩
theorem macP_p (s : ByteArray) (hs : s.size ≤ 200) (α : Type) (k : Int → Int → Option α) : mac_Parse s k = k (macP s).1 (macP s).2 := by
  rcases parse_cases s hs with h | ⟨v, _, _, h⟩
  · have : macP s = (0, 11) := by unfold macP; rw [h]; rfl
    rw [this]; exact h α k
  · have : macP s = ((v : Int), 0) := by unfold macP; rw [h]; rfl
    rw [this]; exact h α k
def rd (a w : ByteArray) (c : C8) : Option C8 :=
  bif a.data.toList == [78] then bif numOk w then some { c with num := numI w } else none
  else bif a.data.toList == [80] then bif numOk w && decide (numI w ≤ 255) then some { c with port := numI w } else none
  else bif a.data.toList == [86] then bif numOk w && decide (numI w ≤ 65535) then some { c with vlan := numI w } else none
  else bif a.data.toList == [77] then bif numOk w && decide (numI w ≤ 255) then some { c with memb := IntKind.u8.wrap (numI w) } else none
  else bif a.data.toList == [84] then bif numOk w && decide (numI w ≤ 255) then some { c with tagd := IntKind.u8.wrap (numI w) } else none
  else bif a.data.toList == [65] then bif (macP w).2 == 0 then some { c with mac := (macP w).1 } else none
  else bif w.data.toList == a.data.toList then some c else none
theorem small (w : ByteArray) (hw : w.size ≤ 200) (α : Type) (k0 : Int → Bool → Option α) (k1 : Int → Option α) : parse_small w k0 k1 = bif numOk w then k0 (numI w) (decide (numI w ≤ 255)) else k1 (numI w) := by
  unfold parse_small parse_small_T
  rw [ble_true (by omega), cond_true]
theorem small1 (w : ByteArray) (hw : w.size ≤ 200) (α : Type) (k0 : Int → Bool → Option α) (k1 : Int → Option α) : parse_small_v1 w k0 k1 = bif numOk w then k0 (numI w) (decide (numI w ≤ 65535)) else k1 (numI w) := by
  unfold parse_small_v1 parse_small_v1_T
  rw [ble_true (by omega), cond_true]
theorem read_eq (a w : ByteArray) (c : C8) (hw : w.size ≤ 200) : ∃ (b : Bool) (c' : C8), rd a w c = (bif b then some c' else none) ∧ ∀ (α : Type) (k0 : Bool → Int → Int → Int → Int → Int → Int → Int → Int → Option α), parse_Cmd_read a w c.what c.kind c.port c.num c.vlan c.memb c.tagd c.mac k0 = k0 b c'.what c'.kind c'.port c'.num c'.vlan c'.memb c'.tagd c'.mac := by
  unfold rd
  cases hN : a.data.toList == [78] with
  | true =>
    refine ⟨numOk w, { c with num := numI w }, rfl, fun α k0 => ?_⟩
    unfold parse_Cmd_read parse_Cmd_read_T
    rw [beq_bl]; show (bif (a.data.toList == [78]) then _ else _) = _
    rw [hN, cond_true, ble_true (by omega), cond_true]
  | false =>
  rw [cond_false]
  cases hP : a.data.toList == [80] with
  | true =>
    refine ⟨numOk w && decide (numI w ≤ 255), { c with port := numI w }, rfl, fun α k0 => ?_⟩
    unfold parse_Cmd_read parse_Cmd_read_T
    simp only [beq_bl, hN, hP, cond_false, cond_true]
    rw [small w hw]
    cases numOk w <;> rfl
  | false =>
  rw [cond_false]
  cases hV : a.data.toList == [86] with
  | true =>
    refine ⟨numOk w && decide (numI w ≤ 65535), { c with vlan := numI w }, rfl, fun α k0 => ?_⟩
    unfold parse_Cmd_read parse_Cmd_read_T
    simp only [beq_bl, hN, hP, hV, cond_false, cond_true]
    rw [small1 w hw]
    cases numOk w <;> rfl
  | false =>
  rw [cond_false]
  cases hM : a.data.toList == [77] with
  | true =>
    refine ⟨numOk w && decide (numI w ≤ 255), { c with memb := IntKind.u8.wrap (numI w) }, rfl, fun α k0 => ?_⟩
    unfold parse_Cmd_read parse_Cmd_read_T
    simp only [beq_bl, hN, hP, hV, hM, cond_false, cond_true]
    rw [small w hw]
    cases numOk w <;> rfl
  | false =>
  rw [cond_false]
  cases hT : a.data.toList == [84] with
  | true =>
    refine ⟨numOk w && decide (numI w ≤ 255), { c with tagd := IntKind.u8.wrap (numI w) }, rfl, fun α k0 => ?_⟩
    unfold parse_Cmd_read parse_Cmd_read_T
    simp only [beq_bl, hN, hP, hV, hM, hT, cond_false, cond_true]
    rw [small w hw]
    cases numOk w <;> rfl
  | false =>
  rw [cond_false]
  cases hA : a.data.toList == [65] with
  | true =>
    refine ⟨(macP w).2 == 0, { c with mac := (macP w).1 }, rfl, fun α k0 => ?_⟩
    unfold parse_Cmd_read parse_Cmd_read_T
    simp only [beq_bl, hN, hP, hV, hM, hT, hA, cond_false, cond_true]
    rw [macP_p w hw]
  | false =>
    rw [cond_false]
    refine ⟨w.data.toList == a.data.toList, c, rfl, fun α k0 => ?_⟩
    unfold parse_Cmd_read parse_Cmd_read_T
    simp only [beq_bl, hN, hP, hV, hM, hT, hA, cond_false, cond_true]
def takeF : List ByteArray → List ByteArray → C8 → Option C8
  | a :: V, w :: W, c => match rd a w c with
    | some c' => takeF V W c'
    | none => none
  | _, _, c => some c
def kC {α : Type} (k : Int → Int → Int → Int → Int → Int → Int → Int → Option α) (c : C8) : Option α := k c.what c.kind c.port c.num c.vlan c.memb c.tagd c.mac
theorem take_loop {n : Nat} {f g : Nat → Nat → PV} {V W : List ByteArray} (hV : TB n g V) (hW : TB n f W) (hn : n ≤ 1000) (hs : ∀ w ∈ W, w.size ≤ 200) (nl nl2 : Bool) (α : Type) (k0 : Bool → Nat → (Nat → Nat → PV) → Option α) (k1 : Bool → Nat → (Nat → Nat → PV) → Int → Int → Int → Int → Int → Int → Int → Int → Option α) : ∀ (d i fuel : Nat) (c : C8), i + d = n → d < fuel →
    parse_form_take_L0_l0 k0 k1 fuel (n : Int) (i : Int) nl n f nl2 n g c.what c.kind c.port c.num c.vlan c.memb c.tagd c.mac = match takeF (V.drop i) (W.drop i) c with
      | none => k0 nl n f
      | some c' => k1 nl n f c'.what c'.kind c'.port c'.num c'.vlan c'.memb c'.tagd c'.mac
 := by
  intro d
  induction d with
  | zero =>
    intro i fuel c hi hf
    obtain ⟨fuel, rfl⟩ : ∃ m, fuel = m + 1 := ⟨fuel - 1, by omega⟩
    obtain rfl : i = n := by omega
    rw [List.drop_eq_nil_of_le (by rw [hV.1]; exact Nat.le_refl _), List.drop_eq_nil_of_le (by rw [hW.1]; exact Nat.le_refl _)]
    show parse_form_take_L0_s0 _ _ k0 k1 (i : Int) (i : Int) nl i f nl2 i g c.what c.kind c.port c.num c.vlan c.memb c.tagd c.mac = k1 nl i f c.what c.kind c.port c.num c.vlan c.memb c.tagd c.mac
    unfold parse_form_take_L0_s0
    rw [dec_f (Int.lt_irrefl _), cond_false]
  | succ d ih =>
    intro i fuel c hi hf
    obtain ⟨fuel, rfl⟩ : ∃ m, fuel = m + 1 := ⟨fuel - 1, by omega⟩
    have h1 : i < V.length := by rw [hV.1]; omega
    have h2 : i < W.length := by rw [hW.1]; omega
    rw [List.drop_eq_getElem_cons h1, List.drop_eq_getElem_cons h2]
    obtain ⟨b, c', q1, q2⟩ := read_eq V[i] W[i] c (hs _ (List.getElem_mem h2))
    show parse_form_take_L0_s0 _ _ k0 k1 (n : Int) (i : Int) nl n f nl2 n g c.what c.kind c.port c.num c.vlan c.memb c.tagd c.mac = _
    unfold parse_form_take_L0_s0
    rw [dec_t (show (i : Int) < (n : Int) by omega), inb_t (show (0 : Int) ≤ (i : Int) by omega) (show (i : Int) < (n : Int) by omega), cond_true, cond_true, cond_true, Int.toNat_natCast, hV.2 i h1, hW.2 i h2, q2]
    unfold takeF
    rw [q1]
    cases b with
    | false => rfl
    | true =>
      have := ih (i + 1) fuel c' (by omega) (by omega)
      show parse_form_take_L0_l0 k0 k1 fuel (n : Int) (IntKind.i64.wrap ((i : Int) + 1)) nl n f nl2 n g c'.what c'.kind c'.port c'.num c'.vlan c'.memb c'.tagd c'.mac = _
      rw [i64_id (by omega) (by omega)]
      exact this
def Vs (i : Nat) : List ByteArray := (words (textOf (e1 i 8)).data.toList).map w2b
def ci (i : Nat) : C8 := ⟨numOf (e1 i 0), numOf (e1 i 1), numOf (e1 i 2), numOf (e1 i 3), numOf (e1 i 4), numOf (e1 i 5), numOf (e1 i 6), numOf (e1 i 7)⟩
def tk (i : Nat) (W : List ByteArray) : Option C8 := bif (Vs i).length == W.length then takeF (Vs i) W (ci i) else none
theorem short (i : Nat) (h : i < 16) : (textOf (e1 i 8)).size ≤ 100 := by
  have : (List.range 16).all (fun i => Nat.ble (textOf (e1 i 8)).size 100) = true := by kernel_rfl
  have := List.all_eq_true.1 this i (List.mem_range.2 h)
  exact Nat.le_of_ble_eq_true this
theorem take_eq {n : Nat} {f : Nat → Nat → PV} {W : List ByteArray} (hW : TB n f W) (hn : n ≤ 1000) (hs : ∀ w ∈ W, w.size ≤ 200) (nl : Bool) (i : Nat) (hi : i < 16) (α : Type) (k0 : Bool → Nat → (Nat → Nat → PV) → Option α) (k1 : Int → Int → Int → Int → Int → Int → Int → Int → Bool → Nat → (Nat → Nat → PV) → Option α) :
    parse_form_take (ci i).what (ci i).kind (ci i).port (ci i).num (ci i).vlan (ci i).memb (ci i).tagd (ci i).mac (textOf (e1 i 8)) nl n f k0 k1 = match tk i W with
      | none => k0 nl n f
      | some c => k1 c.what c.kind c.port c.num c.vlan c.memb c.tagd c.mac nl n f := by
  have hsz := short i hi
  obtain ⟨nl2, m, g, h1, h2⟩ := cutP (textOf (e1 i 8)) (by omega) (fun _ _ => .val undef)
  have hV : TB m g (Vs i) := TB.of h1
  unfold parse_form_take parse_form_take_T
  rw [splitOk_of (by omega), cond_true, h2]
  unfold tk
  by_cases hm : m = n
  · subst hm
    have e : ((m : Int) != (m : Int)) = false := by simp
    rw [e, cond_false, show ((Vs i).length == W.length) = true by rw [hV.1, hW.1]; exact beq_self_eq_true m, cond_true]
    unfold parse_form_take_L0
    have := take_loop hV hW hn hs nl nl2 α (fun r_16 r_17 r_18 => k0 r_16 r_17 r_18) (fun r_16 r_17 r_18 r_19 r_20 r_21 r_22 r_23 r_24 r_25 r_26 => k1 r_19 r_20 r_21 r_22 r_23 r_24 r_25 r_26 r_16 r_17 r_18) m 0 18446744073709551616 (ci i) (by omega) (by omega)
    rw [List.drop_zero, List.drop_zero] at this
    exact this
  · have e : ((m : Int) != (n : Int)) = true := by simp; omega
    rw [e, cond_true, show ((Vs i).length == W.length) = false by rw [hV.1, hW.1]; exact beq_false_of_ne hm, cond_false]
def first (F : Nat → Option C8) : Nat → Nat → Option C8
  | _, 0 => none
  | i, d + 1 => match F i with
    | some c => some c
    | none => first F (i + 1) d
theorem first_congr {F G : Nat → Option C8} : ∀ (d i : Nat), (∀ j, i ≤ j → j < i + d → F j = G j) → first F i d = first G i d
  | 0, i, h => rfl
  | d + 1, i, h => by
    unfold first
    rw [h i (Nat.le_refl _) (by omega), first_congr d (i + 1) (fun j h1 h2 => h j (by omega) (by omega))]
def WB (s : ByteArray) : List ByteArray := (words s.data.toList).map w2b
def find (W : List ByteArray) : Option C8 := first (fun j => tk j W) 0 16
theorem bulk_mem {w : List UInt8} : ∀ {L : List (List UInt8)}, w ∈ L → w.length + 1 ≤ bulk L
  | x :: L, h => by
    unfold bulk
    rcases List.mem_cons.1 h with rfl | h
    · omega
    · have := bulk_mem h; omega
theorem WB_small {s : ByteArray} (hs : s.size ≤ 200) : (WB s).length ≤ 1000 ∧ ∀ w ∈ WB s, w.size ≤ 200 := by
  have h := words_bulk s.data.toList
  have hl := bulk_len (words s.data.toList)
  rw [bl_size] at h
  refine ⟨by unfold WB; rw [List.length_map]; omega, fun w hw => ?_⟩
  obtain ⟨l, h1, rfl⟩ := List.mem_map.1 hw
  have := bulk_mem h1
  show l.toArray.size ≤ 200
  simp
  omega
def Sh (i : Nat) : List ByteArray := Ve.rowL (lenOf (e38 i 0)) (fnOf (e38 i 0))
def col : List ByteArray → List ByteArray → Int → Bool → List Int → Int × Bool × List Int
  | a :: V, w :: W, m, ok, ns =>
    bif a.data.toList == [35] then col V W m (ok && numOk w) (ns ++ [numI w])
    else bif a.data.toList == [64] then col V W (macP w).1 (ok && ((macP w).2 == 0)) ns
    else col V W m (ok && (w.data.toList == a.data.toList)) ns
  | _, _, m, ok, ns => (m, ok, ns)
def cnt : List ByteArray → Nat
  | [] => 0
  | a :: V => (bif a.data.toList == [35] then 1 else 0) + cnt V
theorem col_len : ∀ (V W : List ByteArray) (m : Int) (ok : Bool) (ns : List Int), V.length = W.length → (col V W m ok ns).2.2.length = ns.length + cnt V
  | [], [], m, ok, ns, h => rfl
  | a :: V, w :: W, m, ok, ns, h => by
    have h' : V.length = W.length := by simpa using h
    unfold col cnt
    cases a.data.toList == [35] with
    | true => rw [cond_true, cond_true, col_len V W _ _ _ h', List.length_append, List.length_singleton]; omega
    | false =>
      rw [cond_false, cond_false]
      cases a.data.toList == [64] with
      | true => rw [cond_true, col_len V W _ _ _ h']; omega
      | false => rw [cond_false, col_len V W _ _ _ h']; omega
theorem bnd8 {n : Nat} (h : n ≤ 1000000) : Nat.ble ((n + 1) * 8) bound = true := ble_true (by unfold bound; omega)
theorem col_loop {n i : Nat} {f : Nat → Nat → PV} {W : List ByteArray} (hi : i < 16) (hW : TB n f W) (hl : lenOf (e38 i 0) = n) (hn : n ≤ 1000) (hs : ∀ w ∈ W, w.size ≤ 200) (nl : Bool) : ∀ (d j fuel : Nat) (m : Int) (ok : Bool) (nl2 : Bool) (n2 : Nat) (g : Nat → Nat → PV) (ns : List Int), j + d = n → NB n2 g ns → n2 ≤ j → d < fuel →
    ∃ nl' n' g', NB n' g' (col ((Sh i).drop j) (W.drop j) m ok ns).2.2 ∧ ∀ (α : Type) (k0 : Int → Int → Bool → Bool → Nat → (Nat → Nat → PV) → (Nat → Nat → PV) → Bool → Nat → (Nat → Nat → PV) → Option α), ref22_Line_L2_v1_l0 k0 fuel (i : Int) m ok (j : Int) nl n f e38 nl2 n2 g = k0 (i : Int) (col ((Sh i).drop j) (W.drop j) m ok ns).1 (col ((Sh i).drop j) (W.drop j) m ok ns).2.1 nl n f e38 nl' n' g'
  | 0, j, fuel + 1, m, ok, nl2, n2, g, ns, hj, hg, h2, hf => by
    obtain rfl : j = n := by omega
    rw [List.drop_eq_nil_of_le (by unfold Sh; simp [Ve.rowL, hl]), List.drop_eq_nil_of_le (by rw [hW.1]; exact Nat.le_refl _)]
    refine ⟨nl2, n2, g, hg, fun α k0 => ?_⟩
    show ref22_Line_L2_v1_s0 _ _ _ k0 (i : Int) m ok (j : Int) nl j f e38 nl2 n2 g = k0 (i : Int) m ok nl j f e38 nl2 n2 g
    unfold ref22_Line_L2_v1_s0
    rw [dec_f (Int.lt_irrefl _), cond_false]
  | d + 1, j, fuel + 1, m, ok, nl2, n2, g, ns, hj, hg, h2, hf => by
    have hS : TB (lenOf (e38 i 0)) (fnOf (e38 i 0)) (Sh i) := TB.row _ _
    have j1 : j < (Sh i).length := by rw [hS.1, hl]; omega
    have j2 : j < W.length := by rw [hW.1]; omega
    have hw := hs _ (List.getElem_mem j2)
    rw [List.drop_eq_getElem_cons j1, List.drop_eq_getElem_cons j2]
    have step : ∀ (α : Type) (k0 : Int → Int → Bool → Bool → Nat → (Nat → Nat → PV) → (Nat → Nat → PV) → Bool → Nat → (Nat → Nat → PV) → Option α), ref22_Line_L2_v1_l0 k0 (fuel + 1) (i : Int) m ok (j : Int) nl n f e38 nl2 n2 g =
        bif (Sh i)[j].data.toList == [35] then ref22_Line_L2_v1_l0 k0 fuel (i : Int) m (ok && numOk W[j]) ((j + 1 : Nat) : Int) nl n f e38 (nl2 && false) (n2 + 1) (catf n2 g (rowOf 1 [.val (.int .i64 (numI W[j]))]))
        else bif (Sh i)[j].data.toList == [64] then ref22_Line_L2_v1_l0 k0 fuel (i : Int) (macP W[j]).1 (ok && ((macP W[j]).2 == 0)) ((j + 1 : Nat) : Int) nl n f e38 nl2 n2 g
        else ref22_Line_L2_v1_l0 k0 fuel (i : Int) m (ok && (W[j].data.toList == (Sh i)[j].data.toList)) ((j + 1 : Nat) : Int) nl n f e38 nl2 n2 g := by
      intro α k0
      show ref22_Line_L2_v1_s0 _ _ _ k0 (i : Int) m ok (j : Int) nl n f e38 nl2 n2 g = _
      unfold ref22_Line_L2_v1_s0 e62
      rw [dec_t (show (j : Int) < (n : Int) by omega), inb_t (show (0 : Int) ≤ (i : Int) by omega) (show (i : Int) < ((16 : Nat) : Int) by omega), cond_true, cond_true, cond_true, Int.toNat_natCast, hl, inb_t (show (0 : Int) ≤ (j : Int) by omega) (show (j : Int) < (n : Int) by omega), cond_true, cond_true, cond_true, Int.toNat_natCast, hS.2 j j1, hW.2 j j2, beq_bl, beq_bl, beq_bl, i64_id (by omega) (by omega), num_eq, (macP_ok _ hw).2, bnd8 (by omega), cond_true, cond_true]
      show (bif (Sh i)[j].data.toList == [35] then _ else bif (Sh i)[j].data.toList == [64] then _ else _) = _
      cases (Sh i)[j].data.toList == [35] with
      | true =>
        rw [cond_true, cond_true]
        unfold numI
        cases numOk W[j] <;> cases ok <;> rfl
      | false =>
        rw [cond_false, cond_false]
        cases (Sh i)[j].data.toList == [64] with
        | true => rw [cond_true, cond_true]; cases ok <;> rfl
        | false => rw [cond_false, cond_false]; cases ok <;> rfl
    unfold col
    cases ha : (Sh i)[j].data.toList == [35] with
    | true =>
      obtain ⟨nl', n', g', h3, h4⟩ := col_loop hi hW hl hn hs nl d (j + 1) fuel m (ok && numOk W[j]) (nl2 && false) (n2 + 1) _ _ (by omega) (hg.snoc (numI W[j])) (by omega) (by omega)
      refine ⟨nl', n', g', by rw [cond_true]; exact h3, fun α k0 => ?_⟩
      rw [step, ha, cond_true, cond_true]; exact h4 α k0
    | false =>
      cases hb : (Sh i)[j].data.toList == [64] with
      | true =>
        obtain ⟨nl', n', g', h3, h4⟩ := col_loop hi hW hl hn hs nl d (j + 1) fuel (macP W[j]).1 (ok && ((macP W[j]).2 == 0)) nl2 n2 g ns (by omega) hg (by omega) (by omega)
        refine ⟨nl', n', g', by rw [cond_false, cond_true]; exact h3, fun α k0 => ?_⟩
        rw [step, ha, hb, cond_false, cond_true, cond_false, cond_true]; exact h4 α k0
      | false =>
        obtain ⟨nl', n', g', h3, h4⟩ := col_loop hi hW hl hn hs nl d (j + 1) fuel m (ok && (W[j].data.toList == (Sh i)[j].data.toList)) nl2 n2 g ns (by omega) hg (by omega) (by omega)
        refine ⟨nl', n', g', by rw [cond_false, cond_false]; exact h3, fun α k0 => ?_⟩
        rw [step, ha, hb, cond_false, cond_false, cond_false, cond_false]; exact h4 α k0
def mk : Nat → Int → List Int → Option C8
  | 0, m, ns => some ⟨1, 1, 0, ns.getD 0 0, 0, 0, 0, 0⟩
  | 1, m, ns => some ⟨1, 2, 0, ns.getD 0 0, 0, 0, 0, 0⟩
  | 2, m, ns => some ⟨1, 3, 0, ns.getD 0 0, 0, 0, 0, 0⟩
  | 3, m, ns => bif decide (ns.getD 0 0 ≤ 255) then some ⟨1, 4, ns.getD 0 0, 1, 0, 0, 0, 0⟩ else none
  | 4, m, ns => bif decide (ns.getD 0 0 ≤ 255) then some ⟨1, 4, ns.getD 0 0, 0, 0, 0, 0, 0⟩ else none
  | 5, m, ns => bif decide (ns.getD 0 0 ≤ 255) then some ⟨1, 5, ns.getD 0 0, ns.getD 1 0, 0, 0, 0, 0⟩ else none
  | 6, m, ns => bif decide (ns.getD 0 0 ≤ 255) then some ⟨1, 6, ns.getD 0 0, ns.getD 1 0, 0, 0, 0, 0⟩ else none
  | 7, m, ns => bif decide (ns.getD 1 0 ≤ 255) then bif decide (ns.getD 2 0 ≤ 255) then bif decide (ns.getD 0 0 ≤ 65535) then some ⟨1, 7, 0, 0, ns.getD 0 0, IntKind.u8.wrap (ns.getD 1 0), IntKind.u8.wrap (ns.getD 2 0), 0⟩ else none else none else none
  | 8, m, ns => bif decide (ns.getD 0 0 ≤ 65535) then some ⟨1, 8, 0, 0, ns.getD 0 0, 0, 0, 0⟩ else none
  | 9, m, ns => bif decide (ns.getD 1 0 ≤ 255) then bif decide (ns.getD 0 0 ≤ 65535) then some ⟨1, 9, ns.getD 1 0, 0, ns.getD 0 0, 0, 0, m⟩ else none else none
  | 10, m, ns => bif decide (ns.getD 0 0 ≤ 65535) then some ⟨1, 10, 0, 0, ns.getD 0 0, 0, 0, m⟩ else none
  | 11, m, ns => some ⟨2, 0, 0, 0, 0, 0, 0, 0⟩
  | 12, m, ns => some ⟨3, 0, 0, 0, 0, 0, 0, 0⟩
  | 13, m, ns => some ⟨4, 0, 0, 0, 0, 0, 0, 0⟩
  | 14, m, ns => some ⟨5, 0, 0, 0, 0, 0, 0, 0⟩
  | 15, m, ns => some ⟨6, 0, 0, 0, 0, 0, 0, 0⟩
  | _, _, _ => none
theorem nb_at {n : Nat} {g : Nat → Nat → PV} {ns : List Int} (h : NB n g ns) (j : Nat) (hj : j < ns.length) : numOf (g j 0) = ns.getD j 0 := by
  rw [h.2 j hj]; simp [List.getD, hj]
def MadeOk (i : Nat) (m : Int) (n : Nat) (g : Nat → Nat → PV) (ns : List Int) : Prop := ∃ (b : Bool) (c : C8), mk i m ns = (bif b then some c else none) ∧ ∀ (α : Type) (nl : Bool) (k0 : Int → Int → Int → Int → Int → Int → Int → Int → Bool → Bool → Nat → (Nat → Nat → PV) → Option α), ref22_made (i : Int) m nl n g k0 = k0 c.what c.kind c.port c.num c.vlan c.memb c.tagd c.mac b nl n g
theorem made_0 (m : Int) (n : Nat) (g : Nat → Nat → PV) (ns : List Int) (h : NB n g ns) (hc : 1 ≤ ns.length) : MadeOk 0 m n g ns := by
  have q0 : numOf (g 0 0) = ns.getD 0 0 := nb_at h 0 (by omega)
  have hn := h.1
  have e : ∀ (α : Type) (nl : Bool) (k0 : Int → Int → Int → Int → Int → Int → Int → Int → Bool → Bool → Nat → (Nat → Nat → PV) → Option α), ref22_made ((0 : Nat) : Int) m nl n g k0 = bif inb 0 3 then bif inb 0 n then k0 (1) (1) (0) ((numOf (g 0 0))) (0) (0) (0) (0) true nl n g else none else none := fun α nl k0 => by kernel_rfl
  simp only [q0, inb_t (show (0 : Int) ≤ 0 by omega) (show (0 : Int) < (n : Int) by omega), cond_true] at e
  refine ⟨true, ⟨1, 1, 0, ns.getD 0 0, 0, 0, 0, 0⟩, ?_, fun α nl k0 => ?_⟩
  · rfl
  · rw [e]; rfl
theorem made_1 (m : Int) (n : Nat) (g : Nat → Nat → PV) (ns : List Int) (h : NB n g ns) (hc : 1 ≤ ns.length) : MadeOk 1 m n g ns := by
  have q0 : numOf (g 0 0) = ns.getD 0 0 := nb_at h 0 (by omega)
  have hn := h.1
  have e : ∀ (α : Type) (nl : Bool) (k0 : Int → Int → Int → Int → Int → Int → Int → Int → Bool → Bool → Nat → (Nat → Nat → PV) → Option α), ref22_made ((1 : Nat) : Int) m nl n g k0 = bif inb 1 3 then bif inb 0 n then k0 (1) (2) (0) ((numOf (g 0 0))) (0) (0) (0) (0) true nl n g else none else none := fun α nl k0 => by kernel_rfl
  simp only [q0, inb_t (show (0 : Int) ≤ 0 by omega) (show (0 : Int) < (n : Int) by omega), cond_true] at e
  refine ⟨true, ⟨1, 2, 0, ns.getD 0 0, 0, 0, 0, 0⟩, ?_, fun α nl k0 => ?_⟩
  · rfl
  · rw [e]; rfl
theorem made_2 (m : Int) (n : Nat) (g : Nat → Nat → PV) (ns : List Int) (h : NB n g ns) (hc : 1 ≤ ns.length) : MadeOk 2 m n g ns := by
  have q0 : numOf (g 0 0) = ns.getD 0 0 := nb_at h 0 (by omega)
  have hn := h.1
  have e : ∀ (α : Type) (nl : Bool) (k0 : Int → Int → Int → Int → Int → Int → Int → Int → Bool → Bool → Nat → (Nat → Nat → PV) → Option α), ref22_made ((2 : Nat) : Int) m nl n g k0 = bif inb 2 3 then bif inb 0 n then k0 (1) (3) (0) ((numOf (g 0 0))) (0) (0) (0) (0) true nl n g else none else none := fun α nl k0 => by kernel_rfl
  simp only [q0, inb_t (show (0 : Int) ≤ 0 by omega) (show (0 : Int) < (n : Int) by omega), cond_true] at e
  refine ⟨true, ⟨1, 3, 0, ns.getD 0 0, 0, 0, 0, 0⟩, ?_, fun α nl k0 => ?_⟩
  · rfl
  · rw [e]; rfl
theorem made_3 (m : Int) (n : Nat) (g : Nat → Nat → PV) (ns : List Int) (h : NB n g ns) (hc : 1 ≤ ns.length) : MadeOk 3 m n g ns := by
  have q0 : numOf (g 0 0) = ns.getD 0 0 := nb_at h 0 (by omega)
  have hn := h.1
  have e : ∀ (α : Type) (nl : Bool) (k0 : Int → Int → Int → Int → Int → Int → Int → Int → Bool → Bool → Nat → (Nat → Nat → PV) → Option α), ref22_made ((3 : Nat) : Int) m nl n g k0 = bif inb 0 n then bif decide (numOf (g 0 0) ≤ 255) then k0 (1) (4) ((numOf (g 0 0))) (1) (0) (0) (0) (0) true nl n g else k0 (1) (4) ((numOf (g 0 0))) (1) (0) (0) (0) (0) false nl n g else none := fun α nl k0 => by kernel_rfl
  simp only [q0, inb_t (show (0 : Int) ≤ 0 by omega) (show (0 : Int) < (n : Int) by omega), cond_true] at e
  refine ⟨(decide (ns.getD 0 0 ≤ 255)), ⟨1, 4, ns.getD 0 0, 1, 0, 0, 0, 0⟩, ?_, fun α nl k0 => ?_⟩
  · rfl
  · rw [e]; cases decide (ns.getD 0 0 ≤ 255) <;> rfl
theorem made_4 (m : Int) (n : Nat) (g : Nat → Nat → PV) (ns : List Int) (h : NB n g ns) (hc : 1 ≤ ns.length) : MadeOk 4 m n g ns := by
  have q0 : numOf (g 0 0) = ns.getD 0 0 := nb_at h 0 (by omega)
  have hn := h.1
  have e : ∀ (α : Type) (nl : Bool) (k0 : Int → Int → Int → Int → Int → Int → Int → Int → Bool → Bool → Nat → (Nat → Nat → PV) → Option α), ref22_made ((4 : Nat) : Int) m nl n g k0 = bif inb 0 n then bif decide (numOf (g 0 0) ≤ 255) then k0 (1) (4) ((numOf (g 0 0))) (0) (0) (0) (0) (0) true nl n g else k0 (1) (4) ((numOf (g 0 0))) (0) (0) (0) (0) (0) false nl n g else none := fun α nl k0 => by kernel_rfl
  simp only [q0, inb_t (show (0 : Int) ≤ 0 by omega) (show (0 : Int) < (n : Int) by omega), cond_true] at e
  refine ⟨(decide (ns.getD 0 0 ≤ 255)), ⟨1, 4, ns.getD 0 0, 0, 0, 0, 0, 0⟩, ?_, fun α nl k0 => ?_⟩
  · rfl
  · rw [e]; cases decide (ns.getD 0 0 ≤ 255) <;> rfl
theorem made_5 (m : Int) (n : Nat) (g : Nat → Nat → PV) (ns : List Int) (h : NB n g ns) (hc : 2 ≤ ns.length) : MadeOk 5 m n g ns := by
  have q0 : numOf (g 0 0) = ns.getD 0 0 := nb_at h 0 (by omega)
  have q1 : numOf (g 1 0) = ns.getD 1 0 := nb_at h 1 (by omega)
  have hn := h.1
  have e : ∀ (α : Type) (nl : Bool) (k0 : Int → Int → Int → Int → Int → Int → Int → Int → Bool → Bool → Nat → (Nat → Nat → PV) → Option α), ref22_made ((5 : Nat) : Int) m nl n g k0 = bif inb 0 n then bif inb 1 n then bif decide (numOf (g 0 0) ≤ 255) then k0 (1) (5) ((numOf (g 0 0))) ((numOf (g 1 0))) (0) (0) (0) (0) true nl n g else k0 (1) (5) ((numOf (g 0 0))) ((numOf (g 1 0))) (0) (0) (0) (0) false nl n g else none else none := fun α nl k0 => by kernel_rfl
  simp only [q0, q1, inb_t (show (0 : Int) ≤ 0 by omega) (show (0 : Int) < (n : Int) by omega), inb_t (show (0 : Int) ≤ 1 by omega) (show (1 : Int) < (n : Int) by omega), cond_true] at e
  refine ⟨(decide (ns.getD 0 0 ≤ 255)), ⟨1, 5, ns.getD 0 0, ns.getD 1 0, 0, 0, 0, 0⟩, ?_, fun α nl k0 => ?_⟩
  · rfl
  · rw [e]; cases decide (ns.getD 0 0 ≤ 255) <;> rfl
theorem made_6 (m : Int) (n : Nat) (g : Nat → Nat → PV) (ns : List Int) (h : NB n g ns) (hc : 2 ≤ ns.length) : MadeOk 6 m n g ns := by
  have q0 : numOf (g 0 0) = ns.getD 0 0 := nb_at h 0 (by omega)
  have q1 : numOf (g 1 0) = ns.getD 1 0 := nb_at h 1 (by omega)
  have hn := h.1
  have e : ∀ (α : Type) (nl : Bool) (k0 : Int → Int → Int → Int → Int → Int → Int → Int → Bool → Bool → Nat → (Nat → Nat → PV) → Option α), ref22_made ((6 : Nat) : Int) m nl n g k0 = bif inb 0 n then bif inb 1 n then bif decide (numOf (g 0 0) ≤ 255) then k0 (1) (6) ((numOf (g 0 0))) ((numOf (g 1 0))) (0) (0) (0) (0) true nl n g else k0 (1) (6) ((numOf (g 0 0))) ((numOf (g 1 0))) (0) (0) (0) (0) false nl n g else none else none := fun α nl k0 => by kernel_rfl
  simp only [q0, q1, inb_t (show (0 : Int) ≤ 0 by omega) (show (0 : Int) < (n : Int) by omega), inb_t (show (0 : Int) ≤ 1 by omega) (show (1 : Int) < (n : Int) by omega), cond_true] at e
  refine ⟨(decide (ns.getD 0 0 ≤ 255)), ⟨1, 6, ns.getD 0 0, ns.getD 1 0, 0, 0, 0, 0⟩, ?_, fun α nl k0 => ?_⟩
  · rfl
  · rw [e]; cases decide (ns.getD 0 0 ≤ 255) <;> rfl
theorem made_7 (m : Int) (n : Nat) (g : Nat → Nat → PV) (ns : List Int) (h : NB n g ns) (hc : 3 ≤ ns.length) : MadeOk 7 m n g ns := by
  have q0 : numOf (g 0 0) = ns.getD 0 0 := nb_at h 0 (by omega)
  have q1 : numOf (g 1 0) = ns.getD 1 0 := nb_at h 1 (by omega)
  have q2 : numOf (g 2 0) = ns.getD 2 0 := nb_at h 2 (by omega)
  have hn := h.1
  have e : ∀ (α : Type) (nl : Bool) (k0 : Int → Int → Int → Int → Int → Int → Int → Int → Bool → Bool → Nat → (Nat → Nat → PV) → Option α), ref22_made ((7 : Nat) : Int) m nl n g k0 = bif inb 1 n then bif decide (numOf (g 1 0) > 255) then k0 0 0 0 0 0 0 0 0 false nl n g else bif inb 2 n then bif decide (numOf (g 2 0) > 255) then k0 0 0 0 0 0 0 0 0 false nl n g else bif inb 0 n then bif inb 1 n then bif inb 2 n then k0 (1) (7) (0) (0) ((numOf (g 0 0))) (IntKind.u8.wrap ((numOf (g 1 0)))) (IntKind.u8.wrap ((numOf (g 2 0)))) (0) (decide (numOf (g 0 0) ≤ 65535)) nl n g else none else none else none else none else none := fun α nl k0 => by kernel_rfl
  rw [q0, q1, q2, inb_t (show (0 : Int) ≤ 1 by omega) (show (1 : Int) < (n : Int) by omega), inb_t (show (0 : Int) ≤ 2 by omega) (show (2 : Int) < (n : Int) by omega), inb_t (show (0 : Int) ≤ 0 by omega) (show (0 : Int) < (n : Int) by omega)] at e
  simp only [cond_true] at e
  by_cases h1 : ns.getD 1 0 ≤ 255
  · by_cases h2 : ns.getD 2 0 ≤ 255
    · refine ⟨decide (ns.getD 0 0 ≤ 65535), ⟨1, 7, 0, 0, ns.getD 0 0, IntKind.u8.wrap (ns.getD 1 0), IntKind.u8.wrap (ns.getD 2 0), 0⟩, ?_, fun α nl k0 => ?_⟩
      · show (bif decide (ns.getD 1 0 ≤ 255) then bif decide (ns.getD 2 0 ≤ 255) then bif decide (ns.getD 0 0 ≤ 65535) then some (⟨1, 7, 0, 0, ns.getD 0 0, IntKind.u8.wrap (ns.getD 1 0), IntKind.u8.wrap (ns.getD 2 0), 0⟩ : C8) else none else none else none) = _; rw [dec_t h1, dec_t h2]; rfl
      · rw [e, dec_f (show ¬ ns.getD 1 0 > 255 by omega), dec_f (show ¬ ns.getD 2 0 > 255 by omega)]; rfl
    · refine ⟨false, ⟨0, 0, 0, 0, 0, 0, 0, 0⟩, ?_, fun α nl k0 => ?_⟩
      · show (bif decide (ns.getD 1 0 ≤ 255) then bif decide (ns.getD 2 0 ≤ 255) then bif decide (ns.getD 0 0 ≤ 65535) then some (⟨1, 7, 0, 0, ns.getD 0 0, IntKind.u8.wrap (ns.getD 1 0), IntKind.u8.wrap (ns.getD 2 0), 0⟩ : C8) else none else none else none) = _; rw [dec_t h1, dec_f h2]; rfl
      · rw [e, dec_f (show ¬ ns.getD 1 0 > 255 by omega), dec_t (show ns.getD 2 0 > 255 by omega)]; rfl
  · refine ⟨false, ⟨0, 0, 0, 0, 0, 0, 0, 0⟩, ?_, fun α nl k0 => ?_⟩
    · show (bif decide (ns.getD 1 0 ≤ 255) then bif decide (ns.getD 2 0 ≤ 255) then bif decide (ns.getD 0 0 ≤ 65535) then some (⟨1, 7, 0, 0, ns.getD 0 0, IntKind.u8.wrap (ns.getD 1 0), IntKind.u8.wrap (ns.getD 2 0), 0⟩ : C8) else none else none else none) = _; rw [dec_f h1]; rfl
    · rw [e, dec_t (show ns.getD 1 0 > 255 by omega)]; rfl
theorem made_8 (m : Int) (n : Nat) (g : Nat → Nat → PV) (ns : List Int) (h : NB n g ns) (hc : 1 ≤ ns.length) : MadeOk 8 m n g ns := by
  have q0 : numOf (g 0 0) = ns.getD 0 0 := nb_at h 0 (by omega)
  have hn := h.1
  have e : ∀ (α : Type) (nl : Bool) (k0 : Int → Int → Int → Int → Int → Int → Int → Int → Bool → Bool → Nat → (Nat → Nat → PV) → Option α), ref22_made ((8 : Nat) : Int) m nl n g k0 = bif inb 0 n then k0 (1) (8) (0) (0) ((numOf (g 0 0))) (0) (0) (0) (decide (numOf (g 0 0) ≤ 65535)) nl n g else none := fun α nl k0 => by kernel_rfl
  simp only [q0, inb_t (show (0 : Int) ≤ 0 by omega) (show (0 : Int) < (n : Int) by omega), cond_true] at e
  refine ⟨(decide (ns.getD 0 0 ≤ 65535)), ⟨1, 8, 0, 0, ns.getD 0 0, 0, 0, 0⟩, ?_, fun α nl k0 => ?_⟩
  · rfl
  · rw [e]
theorem made_9 (m : Int) (n : Nat) (g : Nat → Nat → PV) (ns : List Int) (h : NB n g ns) (hc : 2 ≤ ns.length) : MadeOk 9 m n g ns := by
  have q0 : numOf (g 0 0) = ns.getD 0 0 := nb_at h 0 (by omega)
  have q1 : numOf (g 1 0) = ns.getD 1 0 := nb_at h 1 (by omega)
  have hn := h.1
  have e : ∀ (α : Type) (nl : Bool) (k0 : Int → Int → Int → Int → Int → Int → Int → Int → Bool → Bool → Nat → (Nat → Nat → PV) → Option α), ref22_made ((9 : Nat) : Int) m nl n g k0 = bif inb 0 n then bif inb 1 n then bif decide (numOf (g 1 0) ≤ 255) then k0 (1) (9) ((numOf (g 1 0))) (0) ((numOf (g 0 0))) (0) (0) (m) (decide (numOf (g 0 0) ≤ 65535)) nl n g else k0 (1) (9) ((numOf (g 1 0))) (0) ((numOf (g 0 0))) (0) (0) (m) false nl n g else none else none := fun α nl k0 => by kernel_rfl
  simp only [q0, q1, inb_t (show (0 : Int) ≤ 0 by omega) (show (0 : Int) < (n : Int) by omega), inb_t (show (0 : Int) ≤ 1 by omega) (show (1 : Int) < (n : Int) by omega), cond_true] at e
  refine ⟨(decide (ns.getD 1 0 ≤ 255)) && (decide (ns.getD 0 0 ≤ 65535)), ⟨1, 9, ns.getD 1 0, 0, ns.getD 0 0, 0, 0, m⟩, ?_, fun α nl k0 => ?_⟩
  · show (bif decide (ns.getD 1 0 ≤ 255) then bif decide (ns.getD 0 0 ≤ 65535) then some (⟨1, 9, ns.getD 1 0, 0, ns.getD 0 0, 0, 0, m⟩ : C8) else none else none) = _; cases decide (ns.getD 1 0 ≤ 255) <;> cases decide (ns.getD 0 0 ≤ 65535) <;> rfl
  · rw [e]; cases decide (ns.getD 1 0 ≤ 255) <;> rfl
theorem made_10 (m : Int) (n : Nat) (g : Nat → Nat → PV) (ns : List Int) (h : NB n g ns) (hc : 1 ≤ ns.length) : MadeOk 10 m n g ns := by
  have q0 : numOf (g 0 0) = ns.getD 0 0 := nb_at h 0 (by omega)
  have hn := h.1
  have e : ∀ (α : Type) (nl : Bool) (k0 : Int → Int → Int → Int → Int → Int → Int → Int → Bool → Bool → Nat → (Nat → Nat → PV) → Option α), ref22_made ((10 : Nat) : Int) m nl n g k0 = bif inb 0 n then k0 (1) (10) (0) (0) ((numOf (g 0 0))) (0) (0) (m) (decide (numOf (g 0 0) ≤ 65535)) nl n g else none := fun α nl k0 => by kernel_rfl
  simp only [q0, inb_t (show (0 : Int) ≤ 0 by omega) (show (0 : Int) < (n : Int) by omega), cond_true] at e
  refine ⟨(decide (ns.getD 0 0 ≤ 65535)), ⟨1, 10, 0, 0, ns.getD 0 0, 0, 0, m⟩, ?_, fun α nl k0 => ?_⟩
  · rfl
  · rw [e]
theorem made_11 (m : Int) (n : Nat) (g : Nat → Nat → PV) (ns : List Int) (h : NB n g ns) (hc : 0 ≤ ns.length) : MadeOk 11 m n g ns := by
  have hn := h.1
  have e : ∀ (α : Type) (nl : Bool) (k0 : Int → Int → Int → Int → Int → Int → Int → Int → Bool → Bool → Nat → (Nat → Nat → PV) → Option α), ref22_made ((11 : Nat) : Int) m nl n g k0 = k0 (2) (0) (0) (0) (0) (0) (0) (0) true nl n g := fun α nl k0 => by kernel_rfl
  refine ⟨true, ⟨2, 0, 0, 0, 0, 0, 0, 0⟩, ?_, fun α nl k0 => ?_⟩
  · rfl
  · rw [e]
theorem made_12 (m : Int) (n : Nat) (g : Nat → Nat → PV) (ns : List Int) (h : NB n g ns) (hc : 0 ≤ ns.length) : MadeOk 12 m n g ns := by
  have hn := h.1
  have e : ∀ (α : Type) (nl : Bool) (k0 : Int → Int → Int → Int → Int → Int → Int → Int → Bool → Bool → Nat → (Nat → Nat → PV) → Option α), ref22_made ((12 : Nat) : Int) m nl n g k0 = k0 (3) (0) (0) (0) (0) (0) (0) (0) true nl n g := fun α nl k0 => by kernel_rfl
  refine ⟨true, ⟨3, 0, 0, 0, 0, 0, 0, 0⟩, ?_, fun α nl k0 => ?_⟩
  · rfl
  · rw [e]
theorem made_13 (m : Int) (n : Nat) (g : Nat → Nat → PV) (ns : List Int) (h : NB n g ns) (hc : 0 ≤ ns.length) : MadeOk 13 m n g ns := by
  have hn := h.1
  have e : ∀ (α : Type) (nl : Bool) (k0 : Int → Int → Int → Int → Int → Int → Int → Int → Bool → Bool → Nat → (Nat → Nat → PV) → Option α), ref22_made ((13 : Nat) : Int) m nl n g k0 = k0 (4) (0) (0) (0) (0) (0) (0) (0) true nl n g := fun α nl k0 => by kernel_rfl
  refine ⟨true, ⟨4, 0, 0, 0, 0, 0, 0, 0⟩, ?_, fun α nl k0 => ?_⟩
  · rfl
  · rw [e]
theorem made_14 (m : Int) (n : Nat) (g : Nat → Nat → PV) (ns : List Int) (h : NB n g ns) (hc : 0 ≤ ns.length) : MadeOk 14 m n g ns := by
  have hn := h.1
  have e : ∀ (α : Type) (nl : Bool) (k0 : Int → Int → Int → Int → Int → Int → Int → Int → Bool → Bool → Nat → (Nat → Nat → PV) → Option α), ref22_made ((14 : Nat) : Int) m nl n g k0 = k0 (5) (0) (0) (0) (0) (0) (0) (0) true nl n g := fun α nl k0 => by kernel_rfl
  refine ⟨true, ⟨5, 0, 0, 0, 0, 0, 0, 0⟩, ?_, fun α nl k0 => ?_⟩
  · rfl
  · rw [e]
theorem made_15 (m : Int) (n : Nat) (g : Nat → Nat → PV) (ns : List Int) (h : NB n g ns) (hc : 0 ≤ ns.length) : MadeOk 15 m n g ns := by
  have hn := h.1
  have e : ∀ (α : Type) (nl : Bool) (k0 : Int → Int → Int → Int → Int → Int → Int → Int → Bool → Bool → Nat → (Nat → Nat → PV) → Option α), ref22_made ((15 : Nat) : Int) m nl n g k0 = k0 (6) (0) (0) (0) (0) (0) (0) (0) true nl n g := fun α nl k0 => by kernel_rfl
  refine ⟨true, ⟨6, 0, 0, 0, 0, 0, 0, 0⟩, ?_, fun α nl k0 => ?_⟩
  · rfl
  · rw [e]
def cn : Nat → Nat := fun i => cnt (Sh i)
theorem made_ok (i : Nat) (hi : i < 16) (m : Int) (n : Nat) (g : Nat → Nat → PV) (ns : List Int) (h : NB n g ns) (hc : ns.length = cn i) : MadeOk i m n g ns := by
  match i, hi with
  | 0, _ => exact made_0 m n g ns h (by rw [hc, show cn 0 = 1 by kernel_rfl]; exact Nat.le_refl _)
  | 1, _ => exact made_1 m n g ns h (by rw [hc, show cn 1 = 1 by kernel_rfl]; exact Nat.le_refl _)
  | 2, _ => exact made_2 m n g ns h (by rw [hc, show cn 2 = 1 by kernel_rfl]; exact Nat.le_refl _)
  | 3, _ => exact made_3 m n g ns h (by rw [hc, show cn 3 = 1 by kernel_rfl]; exact Nat.le_refl _)
  | 4, _ => exact made_4 m n g ns h (by rw [hc, show cn 4 = 1 by kernel_rfl]; exact Nat.le_refl _)
  | 5, _ => exact made_5 m n g ns h (by rw [hc, show cn 5 = 2 by kernel_rfl]; exact Nat.le_refl _)
  | 6, _ => exact made_6 m n g ns h (by rw [hc, show cn 6 = 2 by kernel_rfl]; exact Nat.le_refl _)
  | 7, _ => exact made_7 m n g ns h (by rw [hc, show cn 7 = 3 by kernel_rfl]; exact Nat.le_refl _)
  | 8, _ => exact made_8 m n g ns h (by rw [hc, show cn 8 = 1 by kernel_rfl]; exact Nat.le_refl _)
  | 9, _ => exact made_9 m n g ns h (by rw [hc, show cn 9 = 2 by kernel_rfl]; exact Nat.le_refl _)
  | 10, _ => exact made_10 m n g ns h (by rw [hc, show cn 10 = 1 by kernel_rfl]; exact Nat.le_refl _)
  | 11, _ => exact made_11 m n g ns h (by rw [hc, show cn 11 = 0 by kernel_rfl]; exact Nat.le_refl _)
  | 12, _ => exact made_12 m n g ns h (by rw [hc, show cn 12 = 0 by kernel_rfl]; exact Nat.le_refl _)
  | 13, _ => exact made_13 m n g ns h (by rw [hc, show cn 13 = 0 by kernel_rfl]; exact Nat.le_refl _)
  | 14, _ => exact made_14 m n g ns h (by rw [hc, show cn 14 = 0 by kernel_rfl]; exact Nat.le_refl _)
  | 15, _ => exact made_15 m n g ns h (by rw [hc, show cn 15 = 0 by kernel_rfl]; exact Nat.le_refl _)
  | j + 16, hj => omega
def rf (i : Nat) (W : List ByteArray) : Option C8 := bif (Sh i).length == W.length then bif (col (Sh i) W 0 true []).2.1 then mk i (col (Sh i) W 0 true []).1 (col (Sh i) W 0 true []).2.2 else none else none
theorem lineR_loop {n : Nat} {f : Nat → Nat → PV} {W : List ByteArray} (hW : TB n f W) (hn : n ≤ 1000) (hs : ∀ w ∈ W, w.size ≤ 200) (nl : Bool) (α : Type) (k0 : Int → Int → Int → Int → Int → Int → Int → Int → Option α) (k1 : Option α) : ∀ (d i fuel : Nat), i + d = 16 → d < fuel →
    ref22_Line_L0_l0 k0 k1 fuel (i : Int) nl n f e38 = match first (fun j => rf j W) i d with
      | none => k1
      | some c => kC k0 c
  | 0, i, fuel + 1, hi, hf => by
    obtain rfl : i = 16 := by omega
    show ref22_Line_L0_s0 _ _ _ k0 k1 ((16 : Nat) : Int) nl n f e38 = k1
    unfold ref22_Line_L0_s0
    rw [dec_f (by omega), cond_false]
  | d + 1, i, fuel + 1, hi, hf => by
    have hS : TB (lenOf (e38 i 0)) (fnOf (e38 i 0)) (Sh i) := TB.row _ _
    have IH := lineR_loop hW hn hs nl α k0 k1 d (i + 1) fuel (by omega) (by omega)
    show ref22_Line_L0_s0 _ _ _ k0 k1 (i : Int) nl n f e38 = _
    unfold ref22_Line_L0_s0
    rw [dec_t (show (i : Int) < 16 by omega), inb_t (show (0 : Int) ≤ (i : Int) by omega) (show (i : Int) < ((16 : Nat) : Int) by omega), cond_true, cond_true, Int.toNat_natCast]
    unfold first
    unfold rf
    by_cases hl : lenOf (e38 i 0) = n
    · rw [show (((lenOf (e38 i 0) : Nat) : Int) != (n : Int)) = false by rw [hl]; simp, cond_false, show ((Sh i).length == W.length) = true by rw [hS.1, hW.1, hl]; exact beq_self_eq_true n, cond_true]
      obtain ⟨nl', n', g', h1, h2⟩ := col_loop (by omega) hW hl hn hs nl n 0 18446744073709551616 0 true true 0 (fun _ _ => .val undef) [] (by omega) (NB.nil _) (Nat.le_refl _) (by omega)
      rw [List.drop_zero, List.drop_zero] at h1 h2
      unfold ref22_Line_L2_v1
      refine (h2 α _).trans ?_
      have hcl := col_len (Sh i) W 0 true [] (by rw [hS.1, hW.1, hl])
      obtain ⟨b, c, m1, m2⟩ := made_ok i (by omega) (col (Sh i) W 0 true []).1 n' g' _ h1 (by rw [hcl]; simp; rfl)
      cases (col (Sh i) W 0 true []).2.1 with
      | false =>
        rw [cond_false]
        show ref22_Line_L0_l0 k0 k1 fuel (IntKind.i64.wrap ((i : Int) + 1)) nl n f e38 = _
        rw [i64_id (by omega) (by omega)]
        exact IH
      | true =>
        rw [cond_true, m1]
        show ref22_made (i : Int) _ nl' n' g' _ = _
        rw [m2]
        cases b with
        | true => rfl
        | false =>
          show ref22_Line_L0_l0 k0 k1 fuel (IntKind.i64.wrap ((i : Int) + 1)) nl n f e38 = _
          rw [i64_id (by omega) (by omega)]
          exact IH
    · rw [show (((lenOf (e38 i 0) : Nat) : Int) != (n : Int)) = true by simp; omega, cond_true, show ((Sh i).length == W.length) = false by rw [hS.1, hW.1]; exact beq_false_of_ne hl, cond_false, i64_id (by omega) (by omega)]
      exact IH
theorem cons_of {W : List ByteArray} {n : Nat} (h : W.length = n + 1) : ∃ a V, W = a :: V ∧ V.length = n := by
  cases W with
  | nil => simp at h
  | cons a V => exact ⟨a, V, rfl, by simpa using h⟩
theorem same_0 (W : List ByteArray) : tk 0 W = rf 0 W := by
  have hv : (Vs 0).length = 2 := by kernel_rfl
  have hs : (Sh 0).length = 2 := by kernel_rfl
  by_cases h : W.length = 2
  · have t0 := h
    obtain ⟨w0, W0, y0, t1⟩ := cons_of t0
    obtain ⟨w1, W1, y1, t2⟩ := cons_of t1
    obtain rfl := List.length_eq_zero_iff.1 t2
    subst y1 y0
    have l : tk 0 [w0, w1] = (fun (b0 n1 : Bool) => (bif b0 then some ((ci 0) : C8) else none).bind fun c0 => (bif n1 then some ({ c0 with num := numI w1 } : C8) else none).bind fun c1 => some c1) (w0.data.toList == [112, 114, 105, 111, 114, 105, 116, 121]) (numOk w1) := by kernel_rfl
    have r : rf 0 [w0, w1] = (fun (b0 n1 : Bool) => bif ((true && b0) && n1) then some (⟨1, 1, 0, numI w1, 0, 0, 0, 0⟩ : C8) else none) (w0.data.toList == [112, 114, 105, 111, 114, 105, 116, 121]) (numOk w1) := by kernel_rfl
    rw [l, r]
    generalize (w0.data.toList == [112, 114, 105, 111, 114, 105, 116, 121]) = b0
    generalize (numOk w1) = n1
    cases b0 <;> cases n1 <;> rfl
  · unfold tk rf
    rw [show ((Vs 0).length == W.length) = false by rw [hv]; exact beq_false_of_ne (fun e => h e.symm), show ((Sh 0).length == W.length) = false by rw [hs]; exact beq_false_of_ne (fun e => h e.symm)]; rfl
theorem same_1 (W : List ByteArray) : tk 1 W = rf 1 W := by
  have hv : (Vs 1).length = 2 := by kernel_rfl
  have hs : (Sh 1).length = 2 := by kernel_rfl
  by_cases h : W.length = 2
  · have t0 := h
    obtain ⟨w0, W0, y0, t1⟩ := cons_of t0
    obtain ⟨w1, W1, y1, t2⟩ := cons_of t1
    obtain rfl := List.length_eq_zero_iff.1 t2
    subst y1 y0
    have l : tk 1 [w0, w1] = (fun (b0 n1 : Bool) => (bif b0 then some ((ci 1) : C8) else none).bind fun c0 => (bif n1 then some ({ c0 with num := numI w1 } : C8) else none).bind fun c1 => some c1) (w0.data.toList == [97, 103, 101]) (numOk w1) := by kernel_rfl
    have r : rf 1 [w0, w1] = (fun (b0 n1 : Bool) => bif ((true && b0) && n1) then some (⟨1, 2, 0, numI w1, 0, 0, 0, 0⟩ : C8) else none) (w0.data.toList == [97, 103, 101]) (numOk w1) := by kernel_rfl
    rw [l, r]
    generalize (w0.data.toList == [97, 103, 101]) = b0
    generalize (numOk w1) = n1
    cases b0 <;> cases n1 <;> rfl
  · unfold tk rf
    rw [show ((Vs 1).length == W.length) = false by rw [hv]; exact beq_false_of_ne (fun e => h e.symm), show ((Sh 1).length == W.length) = false by rw [hs]; exact beq_false_of_ne (fun e => h e.symm)]; rfl
theorem same_2 (W : List ByteArray) : tk 2 W = rf 2 W := by
  have hv : (Vs 2).length = 2 := by kernel_rfl
  have hs : (Sh 2).length = 2 := by kernel_rfl
  by_cases h : W.length = 2
  · have t0 := h
    obtain ⟨w0, W0, y0, t1⟩ := cons_of t0
    obtain ⟨w1, W1, y1, t2⟩ := cons_of t1
    obtain rfl := List.length_eq_zero_iff.1 t2
    subst y1 y0
    have l : tk 2 [w0, w1] = (fun (b0 n1 : Bool) => (bif b0 then some ((ci 2) : C8) else none).bind fun c0 => (bif n1 then some ({ c0 with num := numI w1 } : C8) else none).bind fun c1 => some c1) (w0.data.toList == [100, 101, 108, 97, 121]) (numOk w1) := by kernel_rfl
    have r : rf 2 [w0, w1] = (fun (b0 n1 : Bool) => bif ((true && b0) && n1) then some (⟨1, 3, 0, numI w1, 0, 0, 0, 0⟩ : C8) else none) (w0.data.toList == [100, 101, 108, 97, 121]) (numOk w1) := by kernel_rfl
    rw [l, r]
    generalize (w0.data.toList == [100, 101, 108, 97, 121]) = b0
    generalize (numOk w1) = n1
    cases b0 <;> cases n1 <;> rfl
  · unfold tk rf
    rw [show ((Vs 2).length == W.length) = false by rw [hv]; exact beq_false_of_ne (fun e => h e.symm), show ((Sh 2).length == W.length) = false by rw [hs]; exact beq_false_of_ne (fun e => h e.symm)]; rfl
theorem same_3 (W : List ByteArray) : tk 3 W = rf 3 W := by
  have hv : (Vs 3).length = 3 := by kernel_rfl
  have hs : (Sh 3).length = 3 := by kernel_rfl
  by_cases h : W.length = 3
  · have t0 := h
    obtain ⟨w0, W0, y0, t1⟩ := cons_of t0
    obtain ⟨w1, W1, y1, t2⟩ := cons_of t1
    obtain ⟨w2, W2, y2, t3⟩ := cons_of t2
    obtain rfl := List.length_eq_zero_iff.1 t3
    subst y2 y1 y0
    have l : tk 3 [w0, w1, w2] = (fun (b0 n1 b2 d1 : Bool) => (bif b0 then some ((ci 3) : C8) else none).bind fun c0 => (bif n1 && d1 then some ({ c0 with port := numI w1 } : C8) else none).bind fun c1 => (bif b2 then some (c1 : C8) else none).bind fun c2 => some c2) (w0.data.toList == [112, 111, 114, 116]) (numOk w1) (w2.data.toList == [117, 112]) (decide (numI w1 ≤ 255)) := by kernel_rfl
    have r : rf 3 [w0, w1, w2] = (fun (b0 n1 b2 d1 : Bool) => bif (((true && b0) && n1) && b2) then bif d1 then some (⟨1, 4, numI w1, 1, 0, 0, 0, 0⟩ : C8) else none else none) (w0.data.toList == [112, 111, 114, 116]) (numOk w1) (w2.data.toList == [117, 112]) (decide (numI w1 ≤ 255)) := by kernel_rfl
    rw [l, r]
    generalize (w0.data.toList == [112, 111, 114, 116]) = b0
    generalize (numOk w1) = n1
    generalize (w2.data.toList == [117, 112]) = b2
    generalize (decide (numI w1 ≤ 255)) = d1
    cases b0 <;> cases n1 <;> cases b2 <;> cases d1 <;> rfl
  · unfold tk rf
    rw [show ((Vs 3).length == W.length) = false by rw [hv]; exact beq_false_of_ne (fun e => h e.symm), show ((Sh 3).length == W.length) = false by rw [hs]; exact beq_false_of_ne (fun e => h e.symm)]; rfl
theorem same_4 (W : List ByteArray) : tk 4 W = rf 4 W := by
  have hv : (Vs 4).length = 3 := by kernel_rfl
  have hs : (Sh 4).length = 3 := by kernel_rfl
  by_cases h : W.length = 3
  · have t0 := h
    obtain ⟨w0, W0, y0, t1⟩ := cons_of t0
    obtain ⟨w1, W1, y1, t2⟩ := cons_of t1
    obtain ⟨w2, W2, y2, t3⟩ := cons_of t2
    obtain rfl := List.length_eq_zero_iff.1 t3
    subst y2 y1 y0
    have l : tk 4 [w0, w1, w2] = (fun (b0 n1 b2 d1 : Bool) => (bif b0 then some ((ci 4) : C8) else none).bind fun c0 => (bif n1 && d1 then some ({ c0 with port := numI w1 } : C8) else none).bind fun c1 => (bif b2 then some (c1 : C8) else none).bind fun c2 => some c2) (w0.data.toList == [112, 111, 114, 116]) (numOk w1) (w2.data.toList == [100, 111, 119, 110]) (decide (numI w1 ≤ 255)) := by kernel_rfl
    have r : rf 4 [w0, w1, w2] = (fun (b0 n1 b2 d1 : Bool) => bif (((true && b0) && n1) && b2) then bif d1 then some (⟨1, 4, numI w1, 0, 0, 0, 0, 0⟩ : C8) else none else none) (w0.data.toList == [112, 111, 114, 116]) (numOk w1) (w2.data.toList == [100, 111, 119, 110]) (decide (numI w1 ≤ 255)) := by kernel_rfl
    rw [l, r]
    generalize (w0.data.toList == [112, 111, 114, 116]) = b0
    generalize (numOk w1) = n1
    generalize (w2.data.toList == [100, 111, 119, 110]) = b2
    generalize (decide (numI w1 ≤ 255)) = d1
    cases b0 <;> cases n1 <;> cases b2 <;> cases d1 <;> rfl
  · unfold tk rf
    rw [show ((Vs 4).length == W.length) = false by rw [hv]; exact beq_false_of_ne (fun e => h e.symm), show ((Sh 4).length == W.length) = false by rw [hs]; exact beq_false_of_ne (fun e => h e.symm)]; rfl
theorem same_5 (W : List ByteArray) : tk 5 W = rf 5 W := by
  have hv : (Vs 5).length = 4 := by kernel_rfl
  have hs : (Sh 5).length = 4 := by kernel_rfl
  by_cases h : W.length = 4
  · have t0 := h
    obtain ⟨w0, W0, y0, t1⟩ := cons_of t0
    obtain ⟨w1, W1, y1, t2⟩ := cons_of t1
    obtain ⟨w2, W2, y2, t3⟩ := cons_of t2
    obtain ⟨w3, W3, y3, t4⟩ := cons_of t3
    obtain rfl := List.length_eq_zero_iff.1 t4
    subst y3 y2 y1 y0
    have l : tk 5 [w0, w1, w2, w3] = (fun (b0 n1 b2 n3 d1 : Bool) => (bif b0 then some ((ci 5) : C8) else none).bind fun c0 => (bif n1 && d1 then some ({ c0 with port := numI w1 } : C8) else none).bind fun c1 => (bif b2 then some (c1 : C8) else none).bind fun c2 => (bif n3 then some ({ c2 with num := numI w3 } : C8) else none).bind fun c3 => some c3) (w0.data.toList == [112, 111, 114, 116]) (numOk w1) (w2.data.toList == [99, 111, 115, 116]) (numOk w3) (decide (numI w1 ≤ 255)) := by kernel_rfl
    have r : rf 5 [w0, w1, w2, w3] = (fun (b0 n1 b2 n3 d1 : Bool) => bif ((((true && b0) && n1) && b2) && n3) then bif d1 then some (⟨1, 5, numI w1, numI w3, 0, 0, 0, 0⟩ : C8) else none else none) (w0.data.toList == [112, 111, 114, 116]) (numOk w1) (w2.data.toList == [99, 111, 115, 116]) (numOk w3) (decide (numI w1 ≤ 255)) := by kernel_rfl
    rw [l, r]
    generalize (w0.data.toList == [112, 111, 114, 116]) = b0
    generalize (numOk w1) = n1
    generalize (w2.data.toList == [99, 111, 115, 116]) = b2
    generalize (numOk w3) = n3
    generalize (decide (numI w1 ≤ 255)) = d1
    cases b0 <;> cases n1 <;> cases b2 <;> cases n3 <;> cases d1 <;> rfl
  · unfold tk rf
    rw [show ((Vs 5).length == W.length) = false by rw [hv]; exact beq_false_of_ne (fun e => h e.symm), show ((Sh 5).length == W.length) = false by rw [hs]; exact beq_false_of_ne (fun e => h e.symm)]; rfl
theorem same_6 (W : List ByteArray) : tk 6 W = rf 6 W := by
  have hv : (Vs 6).length = 4 := by kernel_rfl
  have hs : (Sh 6).length = 4 := by kernel_rfl
  by_cases h : W.length = 4
  · have t0 := h
    obtain ⟨w0, W0, y0, t1⟩ := cons_of t0
    obtain ⟨w1, W1, y1, t2⟩ := cons_of t1
    obtain ⟨w2, W2, y2, t3⟩ := cons_of t2
    obtain ⟨w3, W3, y3, t4⟩ := cons_of t3
    obtain rfl := List.length_eq_zero_iff.1 t4
    subst y3 y2 y1 y0
    have l : tk 6 [w0, w1, w2, w3] = (fun (b0 n1 b2 n3 d1 : Bool) => (bif b0 then some ((ci 6) : C8) else none).bind fun c0 => (bif n1 && d1 then some ({ c0 with port := numI w1 } : C8) else none).bind fun c1 => (bif b2 then some (c1 : C8) else none).bind fun c2 => (bif n3 then some ({ c2 with num := numI w3 } : C8) else none).bind fun c3 => some c3) (w0.data.toList == [112, 111, 114, 116]) (numOk w1) (w2.data.toList == [112, 118, 105, 100]) (numOk w3) (decide (numI w1 ≤ 255)) := by kernel_rfl
    have r : rf 6 [w0, w1, w2, w3] = (fun (b0 n1 b2 n3 d1 : Bool) => bif ((((true && b0) && n1) && b2) && n3) then bif d1 then some (⟨1, 6, numI w1, numI w3, 0, 0, 0, 0⟩ : C8) else none else none) (w0.data.toList == [112, 111, 114, 116]) (numOk w1) (w2.data.toList == [112, 118, 105, 100]) (numOk w3) (decide (numI w1 ≤ 255)) := by kernel_rfl
    rw [l, r]
    generalize (w0.data.toList == [112, 111, 114, 116]) = b0
    generalize (numOk w1) = n1
    generalize (w2.data.toList == [112, 118, 105, 100]) = b2
    generalize (numOk w3) = n3
    generalize (decide (numI w1 ≤ 255)) = d1
    cases b0 <;> cases n1 <;> cases b2 <;> cases n3 <;> cases d1 <;> rfl
  · unfold tk rf
    rw [show ((Vs 6).length == W.length) = false by rw [hv]; exact beq_false_of_ne (fun e => h e.symm), show ((Sh 6).length == W.length) = false by rw [hs]; exact beq_false_of_ne (fun e => h e.symm)]; rfl
theorem same_7 (W : List ByteArray) : tk 7 W = rf 7 W := by
  have hv : (Vs 7).length = 6 := by kernel_rfl
  have hs : (Sh 7).length = 6 := by kernel_rfl
  by_cases h : W.length = 6
  · have t0 := h
    obtain ⟨w0, W0, y0, t1⟩ := cons_of t0
    obtain ⟨w1, W1, y1, t2⟩ := cons_of t1
    obtain ⟨w2, W2, y2, t3⟩ := cons_of t2
    obtain ⟨w3, W3, y3, t4⟩ := cons_of t3
    obtain ⟨w4, W4, y4, t5⟩ := cons_of t4
    obtain ⟨w5, W5, y5, t6⟩ := cons_of t5
    obtain rfl := List.length_eq_zero_iff.1 t6
    subst y5 y4 y3 y2 y1 y0
    have l : tk 7 [w0, w1, w2, w3, w4, w5] = (fun (b0 n1 b2 n3 b4 n5 d1 d3 d5 : Bool) => (bif b0 then some ((ci 7) : C8) else none).bind fun c0 => (bif n1 && d1 then some ({ c0 with vlan := numI w1 } : C8) else none).bind fun c1 => (bif b2 then some (c1 : C8) else none).bind fun c2 => (bif n3 && d3 then some ({ c2 with memb := IntKind.u8.wrap (numI w3) } : C8) else none).bind fun c3 => (bif b4 then some (c3 : C8) else none).bind fun c4 => (bif n5 && d5 then some ({ c4 with tagd := IntKind.u8.wrap (numI w5) } : C8) else none).bind fun c5 => some c5) (w0.data.toList == [118, 108, 97, 110]) (numOk w1) (w2.data.toList == [109, 101, 109, 98, 101, 114, 115]) (numOk w3) (w4.data.toList == [116, 97, 103, 103, 101, 100]) (numOk w5) (decide (numI w1 ≤ 65535)) (decide (numI w3 ≤ 255)) (decide (numI w5 ≤ 255)) := by kernel_rfl
    have r : rf 7 [w0, w1, w2, w3, w4, w5] = (fun (b0 n1 b2 n3 b4 n5 d1 d3 d5 : Bool) => bif ((((((true && b0) && n1) && b2) && n3) && b4) && n5) then bif d3 then bif d5 then bif d1 then some (⟨1, 7, 0, 0, numI w1, IntKind.u8.wrap (numI w3), IntKind.u8.wrap (numI w5), 0⟩ : C8) else none else none else none else none) (w0.data.toList == [118, 108, 97, 110]) (numOk w1) (w2.data.toList == [109, 101, 109, 98, 101, 114, 115]) (numOk w3) (w4.data.toList == [116, 97, 103, 103, 101, 100]) (numOk w5) (decide (numI w1 ≤ 65535)) (decide (numI w3 ≤ 255)) (decide (numI w5 ≤ 255)) := by kernel_rfl
    rw [l, r]
    generalize (w0.data.toList == [118, 108, 97, 110]) = b0
    generalize (numOk w1) = n1
    generalize (w2.data.toList == [109, 101, 109, 98, 101, 114, 115]) = b2
    generalize (numOk w3) = n3
    generalize (w4.data.toList == [116, 97, 103, 103, 101, 100]) = b4
    generalize (numOk w5) = n5
    generalize (decide (numI w1 ≤ 65535)) = d1
    generalize (decide (numI w3 ≤ 255)) = d3
    generalize (decide (numI w5 ≤ 255)) = d5
    cases b0 <;> cases n1 <;> cases b2 <;> cases n3 <;> cases b4 <;> cases n5 <;> cases d1 <;> cases d3 <;> cases d5 <;> rfl
  · unfold tk rf
    rw [show ((Vs 7).length == W.length) = false by rw [hv]; exact beq_false_of_ne (fun e => h e.symm), show ((Sh 7).length == W.length) = false by rw [hs]; exact beq_false_of_ne (fun e => h e.symm)]; rfl
theorem same_8 (W : List ByteArray) : tk 8 W = rf 8 W := by
  have hv : (Vs 8).length = 3 := by kernel_rfl
  have hs : (Sh 8).length = 3 := by kernel_rfl
  by_cases h : W.length = 3
  · have t0 := h
    obtain ⟨w0, W0, y0, t1⟩ := cons_of t0
    obtain ⟨w1, W1, y1, t2⟩ := cons_of t1
    obtain ⟨w2, W2, y2, t3⟩ := cons_of t2
    obtain rfl := List.length_eq_zero_iff.1 t3
    subst y2 y1 y0
    have l : tk 8 [w0, w1, w2] = (fun (b0 b1 n2 d2 : Bool) => (bif b0 then some ((ci 8) : C8) else none).bind fun c0 => (bif b1 then some (c0 : C8) else none).bind fun c1 => (bif n2 && d2 then some ({ c1 with vlan := numI w2 } : C8) else none).bind fun c2 => some c2) (w0.data.toList == [110, 111]) (w1.data.toList == [118, 108, 97, 110]) (numOk w2) (decide (numI w2 ≤ 65535)) := by kernel_rfl
    have r : rf 8 [w0, w1, w2] = (fun (b0 b1 n2 d2 : Bool) => bif (((true && b0) && b1) && n2) then bif d2 then some (⟨1, 8, 0, 0, numI w2, 0, 0, 0⟩ : C8) else none else none) (w0.data.toList == [110, 111]) (w1.data.toList == [118, 108, 97, 110]) (numOk w2) (decide (numI w2 ≤ 65535)) := by kernel_rfl
    rw [l, r]
    generalize (w0.data.toList == [110, 111]) = b0
    generalize (w1.data.toList == [118, 108, 97, 110]) = b1
    generalize (numOk w2) = n2
    generalize (decide (numI w2 ≤ 65535)) = d2
    cases b0 <;> cases b1 <;> cases n2 <;> cases d2 <;> rfl
  · unfold tk rf
    rw [show ((Vs 8).length == W.length) = false by rw [hv]; exact beq_false_of_ne (fun e => h e.symm), show ((Sh 8).length == W.length) = false by rw [hs]; exact beq_false_of_ne (fun e => h e.symm)]; rfl
theorem same_9 (W : List ByteArray) : tk 9 W = rf 9 W := by
  have hv : (Vs 9).length = 6 := by kernel_rfl
  have hs : (Sh 9).length = 6 := by kernel_rfl
  by_cases h : W.length = 6
  · have t0 := h
    obtain ⟨w0, W0, y0, t1⟩ := cons_of t0
    obtain ⟨w1, W1, y1, t2⟩ := cons_of t1
    obtain ⟨w2, W2, y2, t3⟩ := cons_of t2
    obtain ⟨w3, W3, y3, t4⟩ := cons_of t3
    obtain ⟨w4, W4, y4, t5⟩ := cons_of t4
    obtain ⟨w5, W5, y5, t6⟩ := cons_of t5
    obtain rfl := List.length_eq_zero_iff.1 t6
    subst y5 y4 y3 y2 y1 y0
    have l : tk 9 [w0, w1, w2, w3, w4, w5] = (fun (b0 b1 b2 n3 b4 n5 d3 d5 : Bool) => (bif b0 then some ((ci 9) : C8) else none).bind fun c0 => (bif b1 then some ({ c0 with mac := (macP w1).1 } : C8) else none).bind fun c1 => (bif b2 then some (c1 : C8) else none).bind fun c2 => (bif n3 && d3 then some ({ c2 with vlan := numI w3 } : C8) else none).bind fun c3 => (bif b4 then some (c3 : C8) else none).bind fun c4 => (bif n5 && d5 then some ({ c4 with port := numI w5 } : C8) else none).bind fun c5 => some c5) (w0.data.toList == [115, 116, 97, 116, 105, 99]) ((macP w1).2 == 0) (w2.data.toList == [118, 108, 97, 110]) (numOk w3) (w4.data.toList == [112, 111, 114, 116]) (numOk w5) (decide (numI w3 ≤ 65535)) (decide (numI w5 ≤ 255)) := by kernel_rfl
    have r : rf 9 [w0, w1, w2, w3, w4, w5] = (fun (b0 b1 b2 n3 b4 n5 d3 d5 : Bool) => bif ((((((true && b0) && b1) && b2) && n3) && b4) && n5) then bif d5 then bif d3 then some (⟨1, 9, numI w5, 0, numI w3, 0, 0, (macP w1).1⟩ : C8) else none else none else none) (w0.data.toList == [115, 116, 97, 116, 105, 99]) ((macP w1).2 == 0) (w2.data.toList == [118, 108, 97, 110]) (numOk w3) (w4.data.toList == [112, 111, 114, 116]) (numOk w5) (decide (numI w3 ≤ 65535)) (decide (numI w5 ≤ 255)) := by kernel_rfl
    rw [l, r]
    generalize (w0.data.toList == [115, 116, 97, 116, 105, 99]) = b0
    generalize ((macP w1).2 == 0) = b1
    generalize (w2.data.toList == [118, 108, 97, 110]) = b2
    generalize (numOk w3) = n3
    generalize (w4.data.toList == [112, 111, 114, 116]) = b4
    generalize (numOk w5) = n5
    generalize (decide (numI w3 ≤ 65535)) = d3
    generalize (decide (numI w5 ≤ 255)) = d5
    cases b0 <;> cases b1 <;> cases b2 <;> cases n3 <;> cases b4 <;> cases n5 <;> cases d3 <;> cases d5 <;> rfl
  · unfold tk rf
    rw [show ((Vs 9).length == W.length) = false by rw [hv]; exact beq_false_of_ne (fun e => h e.symm), show ((Sh 9).length == W.length) = false by rw [hs]; exact beq_false_of_ne (fun e => h e.symm)]; rfl
theorem same_10 (W : List ByteArray) : tk 10 W = rf 10 W := by
  have hv : (Vs 10).length = 5 := by kernel_rfl
  have hs : (Sh 10).length = 5 := by kernel_rfl
  by_cases h : W.length = 5
  · have t0 := h
    obtain ⟨w0, W0, y0, t1⟩ := cons_of t0
    obtain ⟨w1, W1, y1, t2⟩ := cons_of t1
    obtain ⟨w2, W2, y2, t3⟩ := cons_of t2
    obtain ⟨w3, W3, y3, t4⟩ := cons_of t3
    obtain ⟨w4, W4, y4, t5⟩ := cons_of t4
    obtain rfl := List.length_eq_zero_iff.1 t5
    subst y4 y3 y2 y1 y0
    have l : tk 10 [w0, w1, w2, w3, w4] = (fun (b0 b1 b2 b3 n4 d4 : Bool) => (bif b0 then some ((ci 10) : C8) else none).bind fun c0 => (bif b1 then some (c0 : C8) else none).bind fun c1 => (bif b2 then some ({ c1 with mac := (macP w2).1 } : C8) else none).bind fun c2 => (bif b3 then some (c2 : C8) else none).bind fun c3 => (bif n4 && d4 then some ({ c3 with vlan := numI w4 } : C8) else none).bind fun c4 => some c4) (w0.data.toList == [110, 111]) (w1.data.toList == [115, 116, 97, 116, 105, 99]) ((macP w2).2 == 0) (w3.data.toList == [118, 108, 97, 110]) (numOk w4) (decide (numI w4 ≤ 65535)) := by kernel_rfl
    have r : rf 10 [w0, w1, w2, w3, w4] = (fun (b0 b1 b2 b3 n4 d4 : Bool) => bif (((((true && b0) && b1) && b2) && b3) && n4) then bif d4 then some (⟨1, 10, 0, 0, numI w4, 0, 0, (macP w2).1⟩ : C8) else none else none) (w0.data.toList == [110, 111]) (w1.data.toList == [115, 116, 97, 116, 105, 99]) ((macP w2).2 == 0) (w3.data.toList == [118, 108, 97, 110]) (numOk w4) (decide (numI w4 ≤ 65535)) := by kernel_rfl
    rw [l, r]
    generalize (w0.data.toList == [110, 111]) = b0
    generalize (w1.data.toList == [115, 116, 97, 116, 105, 99]) = b1
    generalize ((macP w2).2 == 0) = b2
    generalize (w3.data.toList == [118, 108, 97, 110]) = b3
    generalize (numOk w4) = n4
    generalize (decide (numI w4 ≤ 65535)) = d4
    cases b0 <;> cases b1 <;> cases b2 <;> cases b3 <;> cases n4 <;> cases d4 <;> rfl
  · unfold tk rf
    rw [show ((Vs 10).length == W.length) = false by rw [hv]; exact beq_false_of_ne (fun e => h e.symm), show ((Sh 10).length == W.length) = false by rw [hs]; exact beq_false_of_ne (fun e => h e.symm)]; rfl
theorem same_11 (W : List ByteArray) : tk 11 W = rf 11 W := by
  have hv : (Vs 11).length = 1 := by kernel_rfl
  have hs : (Sh 11).length = 1 := by kernel_rfl
  by_cases h : W.length = 1
  · have t0 := h
    obtain ⟨w0, W0, y0, t1⟩ := cons_of t0
    obtain rfl := List.length_eq_zero_iff.1 t1
    subst y0
    have l : tk 11 [w0] = (fun (b0 : Bool) => (bif b0 then some ((ci 11) : C8) else none).bind fun c0 => some c0) (w0.data.toList == [99, 111, 109, 109, 105, 116]) := by kernel_rfl
    have r : rf 11 [w0] = (fun (b0 : Bool) => bif (true && b0) then some (⟨2, 0, 0, 0, 0, 0, 0, 0⟩ : C8) else none) (w0.data.toList == [99, 111, 109, 109, 105, 116]) := by kernel_rfl
    rw [l, r]
    generalize (w0.data.toList == [99, 111, 109, 109, 105, 116]) = b0
    cases b0 <;> rfl
  · unfold tk rf
    rw [show ((Vs 11).length == W.length) = false by rw [hv]; exact beq_false_of_ne (fun e => h e.symm), show ((Sh 11).length == W.length) = false by rw [hs]; exact beq_false_of_ne (fun e => h e.symm)]; rfl
theorem same_12 (W : List ByteArray) : tk 12 W = rf 12 W := by
  have hv : (Vs 12).length = 1 := by kernel_rfl
  have hs : (Sh 12).length = 1 := by kernel_rfl
  by_cases h : W.length = 1
  · have t0 := h
    obtain ⟨w0, W0, y0, t1⟩ := cons_of t0
    obtain rfl := List.length_eq_zero_iff.1 t1
    subst y0
    have l : tk 12 [w0] = (fun (b0 : Bool) => (bif b0 then some ((ci 12) : C8) else none).bind fun c0 => some c0) (w0.data.toList == [114, 111, 108, 108, 98, 97, 99, 107]) := by kernel_rfl
    have r : rf 12 [w0] = (fun (b0 : Bool) => bif (true && b0) then some (⟨3, 0, 0, 0, 0, 0, 0, 0⟩ : C8) else none) (w0.data.toList == [114, 111, 108, 108, 98, 97, 99, 107]) := by kernel_rfl
    rw [l, r]
    generalize (w0.data.toList == [114, 111, 108, 108, 98, 97, 99, 107]) = b0
    cases b0 <;> rfl
  · unfold tk rf
    rw [show ((Vs 12).length == W.length) = false by rw [hv]; exact beq_false_of_ne (fun e => h e.symm), show ((Sh 12).length == W.length) = false by rw [hs]; exact beq_false_of_ne (fun e => h e.symm)]; rfl
theorem same_13 (W : List ByteArray) : tk 13 W = rf 13 W := by
  have hv : (Vs 13).length = 2 := by kernel_rfl
  have hs : (Sh 13).length = 2 := by kernel_rfl
  by_cases h : W.length = 2
  · have t0 := h
    obtain ⟨w0, W0, y0, t1⟩ := cons_of t0
    obtain ⟨w1, W1, y1, t2⟩ := cons_of t1
    obtain rfl := List.length_eq_zero_iff.1 t2
    subst y1 y0
    have l : tk 13 [w0, w1] = (fun (b0 b1 : Bool) => (bif b0 then some ((ci 13) : C8) else none).bind fun c0 => (bif b1 then some (c0 : C8) else none).bind fun c1 => some c1) (w0.data.toList == [115, 104, 111, 119]) (w1.data.toList == [99, 111, 110, 102, 105, 103]) := by kernel_rfl
    have r : rf 13 [w0, w1] = (fun (b0 b1 : Bool) => bif ((true && b0) && b1) then some (⟨4, 0, 0, 0, 0, 0, 0, 0⟩ : C8) else none) (w0.data.toList == [115, 104, 111, 119]) (w1.data.toList == [99, 111, 110, 102, 105, 103]) := by kernel_rfl
    rw [l, r]
    generalize (w0.data.toList == [115, 104, 111, 119]) = b0
    generalize (w1.data.toList == [99, 111, 110, 102, 105, 103]) = b1
    cases b0 <;> cases b1 <;> rfl
  · unfold tk rf
    rw [show ((Vs 13).length == W.length) = false by rw [hv]; exact beq_false_of_ne (fun e => h e.symm), show ((Sh 13).length == W.length) = false by rw [hs]; exact beq_false_of_ne (fun e => h e.symm)]; rfl
theorem same_14 (W : List ByteArray) : tk 14 W = rf 14 W := by
  have hv : (Vs 14).length = 2 := by kernel_rfl
  have hs : (Sh 14).length = 2 := by kernel_rfl
  by_cases h : W.length = 2
  · have t0 := h
    obtain ⟨w0, W0, y0, t1⟩ := cons_of t0
    obtain ⟨w1, W1, y1, t2⟩ := cons_of t1
    obtain rfl := List.length_eq_zero_iff.1 t2
    subst y1 y0
    have l : tk 14 [w0, w1] = (fun (b0 b1 : Bool) => (bif b0 then some ((ci 14) : C8) else none).bind fun c0 => (bif b1 then some (c0 : C8) else none).bind fun c1 => some c1) (w0.data.toList == [115, 104, 111, 119]) (w1.data.toList == [112, 111, 114, 116, 115]) := by kernel_rfl
    have r : rf 14 [w0, w1] = (fun (b0 b1 : Bool) => bif ((true && b0) && b1) then some (⟨5, 0, 0, 0, 0, 0, 0, 0⟩ : C8) else none) (w0.data.toList == [115, 104, 111, 119]) (w1.data.toList == [112, 111, 114, 116, 115]) := by kernel_rfl
    rw [l, r]
    generalize (w0.data.toList == [115, 104, 111, 119]) = b0
    generalize (w1.data.toList == [112, 111, 114, 116, 115]) = b1
    cases b0 <;> cases b1 <;> rfl
  · unfold tk rf
    rw [show ((Vs 14).length == W.length) = false by rw [hv]; exact beq_false_of_ne (fun e => h e.symm), show ((Sh 14).length == W.length) = false by rw [hs]; exact beq_false_of_ne (fun e => h e.symm)]; rfl
theorem same_15 (W : List ByteArray) : tk 15 W = rf 15 W := by
  have hv : (Vs 15).length = 2 := by kernel_rfl
  have hs : (Sh 15).length = 2 := by kernel_rfl
  by_cases h : W.length = 2
  · have t0 := h
    obtain ⟨w0, W0, y0, t1⟩ := cons_of t0
    obtain ⟨w1, W1, y1, t2⟩ := cons_of t1
    obtain rfl := List.length_eq_zero_iff.1 t2
    subst y1 y0
    have l : tk 15 [w0, w1] = (fun (b0 b1 : Bool) => (bif b0 then some ((ci 15) : C8) else none).bind fun c0 => (bif b1 then some (c0 : C8) else none).bind fun c1 => some c1) (w0.data.toList == [115, 104, 111, 119]) (w1.data.toList == [116, 97, 98, 108, 101]) := by kernel_rfl
    have r : rf 15 [w0, w1] = (fun (b0 b1 : Bool) => bif ((true && b0) && b1) then some (⟨6, 0, 0, 0, 0, 0, 0, 0⟩ : C8) else none) (w0.data.toList == [115, 104, 111, 119]) (w1.data.toList == [116, 97, 98, 108, 101]) := by kernel_rfl
    rw [l, r]
    generalize (w0.data.toList == [115, 104, 111, 119]) = b0
    generalize (w1.data.toList == [116, 97, 98, 108, 101]) = b1
    cases b0 <;> cases b1 <;> rfl
  · unfold tk rf
    rw [show ((Vs 15).length == W.length) = false by rw [hv]; exact beq_false_of_ne (fun e => h e.symm), show ((Sh 15).length == W.length) = false by rw [hs]; exact beq_false_of_ne (fun e => h e.symm)]; rfl
theorem same (i : Nat) (hi : i < 16) (W : List ByteArray) : tk i W = rf i W := by
  match i, hi with
  | 0, _ => exact same_0 W
  | 1, _ => exact same_1 W
  | 2, _ => exact same_2 W
  | 3, _ => exact same_3 W
  | 4, _ => exact same_4 W
  | 5, _ => exact same_5 W
  | 6, _ => exact same_6 W
  | 7, _ => exact same_7 W
  | 8, _ => exact same_8 W
  | 9, _ => exact same_9 W
  | 10, _ => exact same_10 W
  | 11, _ => exact same_11 W
  | 12, _ => exact same_12 W
  | 13, _ => exact same_13 W
  | 14, _ => exact same_14 W
  | 15, _ => exact same_15 W
  | j + 16, hj => omega
theorem lineR (s : ByteArray) (hs : s.size ≤ 200) (α : Type) (k0 : Option α) (k1 : Int → Int → Int → Int → Int → Int → Int → Int → Option α) (k2 : Option α) : ref22_Line s k0 k1 k2 = match find (WB s) with
      | none => k2
      | some c => kC k1 c := by
  obtain ⟨nl, n, f, h1, h2⟩ := cutR s (by omega) (fun _ _ => .val undef)
  obtain ⟨w1, w2⟩ := WB_small hs
  have hW : TB n f (WB s) := TB.of h1
  have e : find (WB s) = first (fun j => rf j (WB s)) 0 16 := first_congr 16 0 (fun j _ h => same j (by omega) _)
  unfold ref22_Line ref22_Line_T
  rw [dec_f (show ¬ (s.size : Int) > 200 by omega), cond_false, h2, e]
  exact lineR_loop hW (by rw [← hW.1]; exact w1) w2 nl α (fun r_5 r_6 r_7 r_8 r_9 r_10 r_11 r_12 => k1 r_5 r_6 r_7 r_8 r_9 r_10 r_11 r_12) k2 16 0 18446744073709551616 (by omega) (by omega)
def macT (x : Int) : ByteArray := (mac_Text x (fun b => some b)).getD ⟨#[]⟩
theorem macT_ok (x : Int) (hx : 0 ≤ x) : (∀ (α : Type) (k : ByteArray → Option α), mac_Text x k = k (macT x)) ∧ ∀ (α : Type) (k : ByteArray → Option α), ref09_Text x k = k (macT x) := by
  obtain ⟨b, h1, h2⟩ := textM_eq x hx
  have : macT x = b := by unfold macT; rw [h1]; rfl
  rw [this]; exact ⟨h1, h2⟩
theorem macT_p (x : Int) (hx : 0 ≤ x) (α : Type) (k : ByteArray → Option α) : mac_Text x k = k (macT x) := by
  by_cases h : x < 281474976710656
  · obtain ⟨X, rfl⟩ : ∃ X : Nat, x = (X : Int) := ⟨x.toNat, by omega⟩
    unfold macT; rw [text_ex X (by omega), text_ex X (by omega)]; rfl
  · unfold macT mac_Text mac_Text_T
    rw [shr48 hx, dec_f h]
    rfl
theorem macT_nat (v : Nat) (hv : v < 281474976710656) : macT (v : Int) = ⟨(tl v).toArray⟩ := by
  unfold macT; rw [text_ex v hv]; rfl
theorem macT_cases (x : Int) (hx : 0 ≤ x) : (macT x).data.toList = [] ∨ ∃ v : Nat, v < 281474976710656 ∧ (macT x).data.toList = tl v := by
  by_cases h : x < 281474976710656
  · obtain ⟨X, rfl⟩ : ∃ X : Nat, x = (X : Int) := ⟨x.toNat, by omega⟩
    exact Or.inr ⟨X, by omega, by rw [macT_nat X (by omega)]⟩
  · left
    unfold macT mac_Text mac_Text_T
    rw [shr48 hx, dec_f h]
    rfl
theorem macP_empty {s : ByteArray} (h : s.data.toList = []) : ((macP s).2 == 0) = false := by
  have hz : s.size = 0 := by rw [← bl_size, h]; rfl
  rcases parse_cases s (by omega) with h1 | ⟨v, hv, e, h1⟩
  · have : macP s = (0, 11) := by unfold macP; rw [h1]; rfl
    rw [this]; rfl
  · rw [h] at e; exact absurd e (by unfold tl; simp)
theorem numOk_empty {s : ByteArray} (h : s.data.toList = []) : numOk s = false := by
  cases hb : numOk s with
  | false => rfl
  | true =>
    obtain ⟨u, _, hd⟩ := numOk_spec.1 hb
    rw [h] at hd; exact absurd hd.symm (dec_ne u)
theorem itoa_fit {x : Int} (h : okI x = true) : (itoaS x).size ≤ 20 ∧ (itoaS x).data.toList ≠ [] ∧ ∀ c ∈ (itoaS x).data.toList, c ≠ 32 := by
  obtain ⟨h1, h2⟩ := okI_spec.1 h
  have hl : (Lib.decDigits x.natAbs).length ≤ 19 := dec_len 18 _ (by omega)
  have ha := dec_all x.natAbs
  have hn := dec_ne x.natAbs
  have hd : ∀ c ∈ Lib.decDigits x.natAbs, c ≠ 32 := by
    intro c hc e
    subst e
    have := List.all_eq_true.1 ha _ hc
    exact absurd this (by decide)
  have e : (itoaS x).data.toList = bif decide (x < 0) then 45 :: Lib.decDigits x.natAbs else Lib.decDigits x.natAbs := by
    unfold itoaS
    rw [decL_eq (by omega)]
  rw [← bl_size, e]
  cases decide (x < 0) with
  | true =>
    rw [cond_true]
    refine ⟨by simp; omega, by simp, fun c hc => ?_⟩
    rcases List.mem_cons.1 hc with rfl | hc
    · decide
    · exact hd c hc
  | false => rw [cond_false]; exact ⟨by omega, hn, hd⟩
theorem H_32 (n : Nat) : H n ≠ 32 := by
  by_cases h : n < 16
  · have : (List.range 16).all (fun n => !(H n == 32)) = true := by kernel_rfl
    have := List.all_eq_true.1 this n (List.mem_range.2 h)
    intro e; rw [e] at this; exact absurd this (by decide)
  · have e : ([48, 49, 50, 51, 52, 53, 54, 55, 56, 57, 97, 98, 99, 100, 101, 102] : List UInt8)[n]? = none := List.getElem?_eq_none (by simp; omega)
    unfold H List.getD; rw [e]; decide
theorem macT_fit {x : Int} (h : 0 ≤ x) : (macT x).size ≤ 20 ∧ ∀ c ∈ (macT x).data.toList, c ≠ 32 := by
  rcases macT_cases x h with e | ⟨v, hv, e⟩
  · rw [← bl_size, e]; exact ⟨by simp, by simp⟩
  · rw [← bl_size, e]
    refine ⟨by unfold tl; simp, fun c hc => ?_⟩
    unfold tl at hc
    simp only [List.mem_cons, List.not_mem_nil, or_false] at hc
    rcases hc with rfl | rfl | rfl | rfl | rfl | rfl | rfl | rfl | rfl | rfl | rfl | rfl | rfl | rfl | rfl | rfl | rfl <;> first | exact H_32 _ | decide
structure CB (c : C8) : Prop where
  p : okI c.port = true
  n : okI c.num = true
  v : okI c.vlan = true
  m0 : 0 ≤ c.memb
  m1 : c.memb ≤ 255
  t0 : 0 ≤ c.tagd
  t1 : c.tagd ≤ 255
  a0 : 0 ≤ c.mac
theorem ok8 {x : Int} (h0 : 0 ≤ x) (h1 : x ≤ 255) : okI x = true := okI_spec.2 ⟨by omega, by omega⟩
def wrt (c : C8) (a : ByteArray) : ByteArray :=
  bif a.data.toList == [78] then itoaS c.num
  else bif a.data.toList == [80] then itoaS c.port
  else bif a.data.toList == [86] then itoaS c.vlan
  else bif a.data.toList == [77] then itoaS c.memb
  else bif a.data.toList == [84] then itoaS c.tagd
  else bif a.data.toList == [65] then macT c.mac
  else a
theorem write_eq {c : C8} (hc : CB c) (a : ByteArray) (α : Type) (k0 : ByteArray → Option α) : parse_Cmd_write c.what c.kind c.port c.num c.vlan c.memb c.tagd c.mac a k0 = k0 (wrt c a) := by
  unfold parse_Cmd_write parse_Cmd_write_T wrt
  have w6 : IntKind.i64.wrap c.memb = c.memb := i64_id (by have := hc.m0; omega) (by have := hc.m1; omega)
  have w7 : IntKind.i64.wrap c.tagd = c.tagd := i64_id (by have := hc.t0; omega) (by have := hc.t1; omega)
  rw [w6, w7, hc.n, hc.p, hc.v, ok8 hc.m0 hc.m1, ok8 hc.t0 hc.t1, macT_p c.mac hc.a0]
  simp only [beq_bl, cond_true]
  cases a.data.toList == [78] <;> cases a.data.toList == [80] <;> cases a.data.toList == [86] <;> cases a.data.toList == [77] <;> cases a.data.toList == [84] <;> cases a.data.toList == [65] <;> rfl
theorem wrt_fit {c : C8} (hc : CB c) {a : ByteArray} (h : a.size ≤ 20) (hn : a.data.toList ≠ []) (hb : ∀ x ∈ a.data.toList, x ≠ 32) : (wrt c a).size ≤ 20 ∧ (∀ x ∈ (wrt c a).data.toList, x ≠ 32) ∧ ((a.data.toList == [65]) = false → (wrt c a).data.toList ≠ []) := by
  have f1 := itoa_fit hc.n
  have f2 := itoa_fit hc.p
  have f3 := itoa_fit hc.v
  have f4 := itoa_fit (ok8 hc.m0 hc.m1)
  have f5 := itoa_fit (ok8 hc.t0 hc.t1)
  have f6 := macT_fit hc.a0
  unfold wrt
  cases a.data.toList == [78] with
  | true => rw [cond_true]; exact ⟨f1.1, f1.2.2, fun _ => f1.2.1⟩
  | false =>
  rw [cond_false]
  cases a.data.toList == [80] with
  | true => rw [cond_true]; exact ⟨f2.1, f2.2.2, fun _ => f2.2.1⟩
  | false =>
  rw [cond_false]
  cases a.data.toList == [86] with
  | true => rw [cond_true]; exact ⟨f3.1, f3.2.2, fun _ => f3.2.1⟩
  | false =>
  rw [cond_false]
  cases a.data.toList == [77] with
  | true => rw [cond_true]; exact ⟨f4.1, f4.2.2, fun _ => f4.2.1⟩
  | false =>
  rw [cond_false]
  cases a.data.toList == [84] with
  | true => rw [cond_true]; exact ⟨f5.1, f5.2.2, fun _ => f5.2.1⟩
  | false =>
  rw [cond_false]
  cases a.data.toList == [65] with
  | true => rw [cond_true]; exact ⟨f6.1, f6.2, fun h => by cases h⟩
  | false => rw [cond_false]; exact ⟨h, hb, fun _ => hn⟩
def wr (i : Nat) (c : C8) : List ByteArray := (Vs i).map (wrt c)
def vfit (a : ByteArray) : Bool := Nat.ble a.size 20 && !a.data.toList.isEmpty && a.data.toList.all (fun x => !(x == 32))
theorem vs_all : (List.range 16).all (fun i => Nat.ble (Vs i).length 6 && (Vs i).all vfit) = true := by kernel_rfl
theorem vs_fit (i : Nat) (hi : i < 16) : (Vs i).length ≤ 6 ∧ ∀ a ∈ Vs i, a.size ≤ 20 ∧ a.data.toList ≠ [] ∧ ∀ x ∈ a.data.toList, x ≠ 32 := by
  have h := List.all_eq_true.1 vs_all i (List.mem_range.2 hi)
  obtain ⟨h1, h2⟩ := (Bool.and_eq_true _ _).mp h
  refine ⟨Nat.le_of_ble_eq_true h1, fun a ha => ?_⟩
  have := List.all_eq_true.1 h2 a ha
  unfold vfit at this
  obtain ⟨h3, h4⟩ := (Bool.and_eq_true _ _).mp this
  obtain ⟨h5, h6⟩ := (Bool.and_eq_true _ _).mp h3
  refine ⟨Nat.le_of_ble_eq_true h5, fun e => by rw [e] at h6; exact absurd h6 (by decide), fun x hx e => ?_⟩
  have := List.all_eq_true.1 h4 x hx
  rw [e] at this; exact absurd this (by decide)
theorem wr_fit {i : Nat} (hi : i < 16) {c : C8} (hc : CB c) : (wr i c).length ≤ 6 ∧ (∀ w ∈ wr i c, w.size ≤ 20 ∧ ∀ x ∈ w.data.toList, x ≠ 32) ∧ ((∀ a ∈ Vs i, (a.data.toList == [65]) = false) → ∀ w ∈ wr i c, w.data.toList ≠ []) := by
  obtain ⟨h1, h2⟩ := vs_fit i hi
  refine ⟨by unfold wr; simpa using h1, fun w hw => ?_, fun hA w hw => ?_⟩
  · obtain ⟨a, ha, rfl⟩ := List.mem_map.1 hw
    obtain ⟨g1, g2, g3⟩ := h2 a ha
    exact ⟨(wrt_fit hc g1 g2 g3).1, (wrt_fit hc g1 g2 g3).2.1⟩
  · obtain ⟨a, ha, rfl⟩ := List.mem_map.1 hw
    obtain ⟨g1, g2, g3⟩ := h2 a ha
    exact (wrt_fit hc g1 g2 g3).2.2 (hA a ha)
theorem rd_empty {a w : ByteArray} (c : C8) (ha : a.data.toList ≠ []) (hw : w.data.toList = []) : rd a w c = none := by
  unfold rd
  rw [numOk_empty hw, macP_empty hw, hw]
  have : (([] : List UInt8) == a.data.toList) = false := by
    cases h : a.data.toList with
    | nil => exact absurd h ha
    | cons x l => rfl
  rw [this]
  cases a.data.toList == [78] <;> cases a.data.toList == [80] <;> cases a.data.toList == [86] <;> cases a.data.toList == [77] <;> cases a.data.toList == [84] <;> cases a.data.toList == [65] <;> rfl
theorem take_empty : ∀ (V W : List ByteArray) (c : C8), (∀ a ∈ V, a.data.toList ≠ []) → V.length = W.length → (∃ w ∈ W, w.data.toList = []) → takeF V W c = none
  | [], [], c, _, _, h => by obtain ⟨w, hw, _⟩ := h; cases hw
  | a :: V, w :: W, c, hV, hl, h => by
    unfold takeF
    obtain ⟨x, hx, he⟩ := h
    rcases List.mem_cons.1 hx with rfl | hx
    · rw [rd_empty c (hV a (List.mem_cons_self ..)) he]
    · cases rd a w c with
      | none => rfl
      | some c' => exact take_empty V W c' (fun b hb => hV b (List.mem_cons_of_mem _ hb)) (by simpa using hl) ⟨x, hx, he⟩
theorem tk_empty {i : Nat} (hi : i < 16) {W : List ByteArray} (h : ∃ w ∈ W, w.data.toList = []) : tk i W = none := by
  unfold tk
  cases hl : (Vs i).length == W.length with
  | false => rfl
  | true => exact take_empty _ _ _ (fun a ha => ((vs_fit i hi).2 a ha).2.1) (by simpa using hl) h
theorem TB.nil (f : Nat → Nat → PV) : TB 0 f [] := ⟨rfl, fun j h => absurd h (Nat.not_lt_zero j)⟩
theorem TB.snoc {n : Nat} {f : Nat → Nat → PV} {L : List ByteArray} (h : TB n f L) (b : ByteArray) : TB (n + 1) (catf n f (rowOf 1 [.val (.string b)])) (L ++ [b]) := by
  refine ⟨by simp [h.1], fun j hj => ?_⟩
  simp only [List.length_append, List.length_singleton] at hj
  have hn := h.1
  by_cases hl : j < L.length
  · rw [List.getElem_append_left hl]
    have : Nat.blt j n = true := Nat.ble_eq_true_of_le (by omega)
    show textOf (bif Nat.blt j n then f j 0 else _) = _
    rw [this, cond_true]
    exact h.2 j hl
  · obtain rfl : j = L.length := by omega
    have hb : Nat.blt L.length n = false := by
      cases hh : Nat.blt L.length n with
      | false => rfl
      | true => have := Nat.le_of_ble_eq_true hh; omega
    rw [List.getElem_append_right (Nat.le_refl _)]
    show textOf (bif Nat.blt L.length n then f L.length 0 else rowOf 1 [.val (.string b)] (L.length - n) 0) = _
    rw [hb, cond_false, show L.length - n = 0 by omega]
    simp
    rfl
theorem TB.tl {n : Nat} {f : Nat → Nat → PV} {L : List ByteArray} (h : TB n f L) : TL n f (L.map (·.data.toList)) := by
  refine ⟨by simp [h.1], fun j hj => ?_⟩
  have hj' : j < L.length := by simpa using hj
  rw [h.2 j hj', List.getElem_map]
theorem write_loop {N : Nat} {g : Nat → Nat → PV} {V : List ByteArray} (hV : TB N g V) (hN : N ≤ 1000) {c : C8} (hc : CB c) (z y1 y2 y3 y4 y5 y6 y7 y8 : Int) (t : ByteArray) (r : Nat → Nat → PV) (nl2 : Bool) : ∀ (d j fuel : Nat) (nl : Bool) (n : Nat) (f : Nat → Nat → PV) (A : List ByteArray), j + d = N → TB n f A → n ≤ j → d < fuel →
    ∃ nl' n' f', TB n' f' (A ++ (V.drop j).map (wrt c)) ∧ ∀ (α : Type) (k0 : Int → Int → Int → Int → Int → Int → Int → Int → Int → Int → Int → Int → Int → Int → Int → Int → Int → ByteArray → Bool → Nat → (Nat → Nat → PV) → (Nat → Nat → PV) → Option α), parse_Text_L2_v1_l0 k0 fuel z (N : Int) (j : Int) c.what c.kind c.port c.num c.vlan c.memb c.tagd c.mac y1 y2 y3 y4 y5 y6 y7 y8 t nl n f r nl2 N g = k0 z c.what c.kind c.port c.num c.vlan c.memb c.tagd c.mac y1 y2 y3 y4 y5 y6 y7 y8 t nl' n' f' r := by
  intro d
  induction d with
  | zero =>
    intro j fuel nl n f A hj hA hn hf
    obtain ⟨fuel, rfl⟩ : ∃ m, fuel = m + 1 := ⟨fuel - 1, by omega⟩
    obtain rfl : j = N := by omega
    refine ⟨nl, n, f, by rw [List.drop_eq_nil_of_le (by rw [hV.1]; exact Nat.le_refl _), List.map_nil, List.append_nil]; exact hA, fun α k0 => ?_⟩
    show parse_Text_L2_v1_s0 _ _ k0 z (j : Int) (j : Int) c.what c.kind c.port c.num c.vlan c.memb c.tagd c.mac y1 y2 y3 y4 y5 y6 y7 y8 t nl n f r nl2 j g = _
    unfold parse_Text_L2_v1_s0
    rw [dec_f (Int.lt_irrefl _), cond_false]
  | succ d ih =>
    intro j fuel nl n f A hj hA hn hf
    obtain ⟨fuel, rfl⟩ : ∃ m, fuel = m + 1 := ⟨fuel - 1, by omega⟩
    have hl : j < V.length := by rw [hV.1]; omega
    obtain ⟨nl', n', f', h1, h2⟩ := ih (j + 1) fuel (nl && false) (n + 1) _ _ (by omega) (hA.snoc (wrt c V[j])) (by omega) (by omega)
    refine ⟨nl', n', f', by rw [List.drop_eq_getElem_cons hl, List.map_cons]; rw [List.append_assoc] at h1; exact h1, fun α k0 => ?_⟩
    show parse_Text_L2_v1_s0 _ _ k0 z (N : Int) (j : Int) c.what c.kind c.port c.num c.vlan c.memb c.tagd c.mac y1 y2 y3 y4 y5 y6 y7 y8 t nl n f r nl2 N g = _
    unfold parse_Text_L2_v1_s0
    rw [dec_t (show (j : Int) < (N : Int) by omega), inb_t (show (0 : Int) ≤ (j : Int) by omega) (show (j : Int) < (N : Int) by omega), cond_true, cond_true, Int.toNat_natCast, hV.2 j hl, write_eq hc, bnd (by omega), cond_true, i64_id (by omega) (by omega)]
    exact h2 α k0
theorem idx_loop {n : Nat} {f : Nat → Nat → PV} {W : List ByteArray} (hW : TB n f W) (hn : n ≤ 1000) (nl : Bool) : ∀ (d j fuel : Nat), j + d = n → d < fuel →
    (∃ m : Int, (∃ w ∈ W, w.data.toList = []) ∧ ∀ (α : Type) (k0 : Int → Bool → Nat → (Nat → Nat → PV) → Option α) (k1 : Bool → Nat → (Nat → Nat → PV) → Option α), slices_Index_string_string_L0_l0 k0 k1 fuel (n : Int) (j : Int) nl n f = k0 m nl n f) ∨ ∀ (α : Type) (k0 : Int → Bool → Nat → (Nat → Nat → PV) → Option α) (k1 : Bool → Nat → (Nat → Nat → PV) → Option α), slices_Index_string_string_L0_l0 k0 k1 fuel (n : Int) (j : Int) nl n f = k1 nl n f
  | 0, j, fuel + 1, hj, hf => by
    right; intro α k0 k1
    obtain rfl : j = n := by omega
    show slices_Index_string_string_L0_s0 _ k0 k1 (j : Int) (j : Int) nl j f = _
    unfold slices_Index_string_string_L0_s0
    rw [dec_f (Int.lt_irrefl _), cond_false]
  | d + 1, j, fuel + 1, hj, hf => by
    have hl : j < W.length := by rw [hW.1]; omega
    have step : ∀ (α : Type) (k0 : Int → Bool → Nat → (Nat → Nat → PV) → Option α) (k1 : Bool → Nat → (Nat → Nat → PV) → Option α), slices_Index_string_string_L0_l0 k0 k1 (fuel + 1) (n : Int) (j : Int) nl n f = bif [] == W[j].data.toList then k0 (j : Int) nl n f else slices_Index_string_string_L0_l0 k0 k1 fuel (n : Int) ((j + 1 : Nat) : Int) nl n f := by
      intro α k0 k1
      show slices_Index_string_string_L0_s0 _ k0 k1 (n : Int) (j : Int) nl n f = _
      unfold slices_Index_string_string_L0_s0
      rw [dec_t (show (j : Int) < (n : Int) by omega), inb_t (show (0 : Int) ≤ (j : Int) by omega) (show (j : Int) < (n : Int) by omega), cond_true, cond_true, Int.toNat_natCast, hW.2 j hl, beq_bl, i64_id (by omega) (by omega)]
      rfl
    cases he : ([] == W[j].data.toList) with
    | true =>
      left
      exact ⟨(j : Int), ⟨W[j], List.getElem_mem hl, (eq_of_beq he).symm⟩, fun α k0 k1 => by rw [step, he, cond_true]⟩
    | false =>
      rcases idx_loop hW hn nl d (j + 1) fuel (by omega) (by omega) with ⟨m, h1, h2⟩ | h2
      · exact Or.inl ⟨m, h1, fun α k0 k1 => by rw [step, he, cond_false]; exact h2 α k0 k1⟩
      · exact Or.inr fun α k0 k1 => by rw [step, he, cond_false]; exact h2 α k0 k1
theorem idx_eq {n : Nat} {f : Nat → Nat → PV} {W : List ByteArray} (hW : TB n f W) (hn : n ≤ 1000) (nl : Bool) : ∃ m : Int, (0 ≤ m → ∃ w ∈ W, w.data.toList = []) ∧ ∀ (α : Type) (k : Int → Bool → Nat → (Nat → Nat → PV) → Option α), slices_Index_string_string nl n f k = k m nl n f := by
  unfold slices_Index_string_string slices_Index_string_string_T slices_Index_string_string_L0
  rcases idx_loop hW hn nl n 0 18446744073709551616 (by omega) (by omega) with ⟨m, h1, h2⟩ | h2
  · exact ⟨m, fun _ => h1, fun α k => h2 α _ _⟩
  · exact ⟨-1, fun h => absurd h (by decide), fun α k => h2 α _ _⟩
def jb (W : List ByteArray) : ByteArray := w2b (joinW (W.map (·.data.toList)))
def same8 (c d : C8) : Bool := e23 c.what d.what c.kind d.kind c.port d.port c.num d.num c.vlan d.vlan c.memb d.memb c.tagd d.tagd c.mac d.mac
def tx (i : Nat) (c : C8) : Option ByteArray := match tk i (wr i c) with
  | some d => bif same8 d c then some (jb (wr i c)) else none
  | none => none
def firstT (F : Nat → Option ByteArray) : Nat → Nat → Option ByteArray
  | _, 0 => none
  | i, d + 1 => match F i with
    | some c => some c
    | none => firstT F (i + 1) d
theorem textP_loop {c : C8} (hc : CB c) (α : Type) (k0 : ByteArray → Option α) (k1 : Option α) : ∀ (d i fuel : Nat), i + d = 16 → d < fuel →
    parse_Text_L0_l0 k0 k1 fuel (i : Int) c.what c.kind c.port c.num c.vlan c.memb c.tagd c.mac e1 = match firstT (fun j => tx j c) i d with
      | some t => k0 t
      | none => k1 := by
  intro d
  induction d with
  | zero =>
    intro i fuel hi hf
    obtain ⟨fuel, rfl⟩ : ∃ m, fuel = m + 1 := ⟨fuel - 1, by omega⟩
    obtain rfl : i = 16 := by omega
    show parse_Text_L0_s0 _ _ _ _ _ k0 k1 ((16 : Nat) : Int) c.what c.kind c.port c.num c.vlan c.memb c.tagd c.mac e1 = k1
    unfold parse_Text_L0_s0
    rw [dec_f (by omega), cond_false]
  | succ d ih =>
    intro i fuel hi hf
    obtain ⟨fuel, rfl⟩ : ∃ m, fuel = m + 1 := ⟨fuel - 1, by omega⟩
    have IH := ih (i + 1) fuel (by omega) (by omega)
    have i16 : i < 16 := by omega
    have hsz := short i i16
    obtain ⟨nl2, m, g, h1, h2⟩ := cutP (textOf (e1 i 8)) (by omega) (fun _ _ => .val undef)
    have hV : TB m g (Vs i) := TB.of h1
    have hm : m ≤ 6 := by rw [← hV.1]; exact (vs_fit i i16).1
    obtain ⟨nl, n, f, h3, h4⟩ := write_loop hV (by omega) hc (i : Int) (numOf (e1 i 0)) (numOf (e1 i 1)) (numOf (e1 i 2)) (numOf (e1 i 3)) (numOf (e1 i 4)) (numOf (e1 i 5)) (numOf (e1 i 6)) (numOf (e1 i 7)) (textOf (e1 i 8)) e1 nl2 m 0 18446744073709551616 true 0 (fun _ _ => .val undef) [] (by omega) (TB.nil _) (Nat.le_refl _) (by omega)
    rw [List.drop_zero, List.nil_append] at h3
    have hW : TB n f (wr i c) := h3
    obtain ⟨w1, w2, w3⟩ := wr_fit i16 hc
    have hn : n ≤ 6 := by rw [← hW.1]; exact w1
    obtain ⟨x, x1, x2⟩ := idx_eq hW (by omega) nl
    show parse_Text_L0_s0 _ _ _ _ _ k0 k1 (i : Int) c.what c.kind c.port c.num c.vlan c.memb c.tagd c.mac e1 = _
    unfold parse_Text_L0_s0
    rw [dec_t (show (i : Int) < 16 by omega), inb_t (show (0 : Int) ≤ (i : Int) by omega) (show (i : Int) < ((16 : Nat) : Int) by omega), cond_true, cond_true, Int.toNat_natCast, splitOk_of (by omega), cond_true, h2]
    unfold parse_Text_L2_v1
    refine (h4 α _).trans ?_
    rw [x2]
    rw [i64_id (show (-9223372036854775808 : Int) ≤ (i : Int) + 1 by omega) (by omega)]
    unfold firstT tx
    by_cases hx : 0 ≤ x
    · rw [dec_t (show x ≥ 0 from hx), cond_true, tk_empty i16 (x1 hx)]
      exact IH
    · rw [dec_f (show ¬ x ≥ 0 from hx), cond_false]
      refine (take_eq hW (by omega) (fun w hw => by have := (w2 w hw).1; omega) nl i i16 α _ _).trans ?_
      cases ht : tk i (wr i c) with
      | none => exact IH
      | some e =>
        show (bif same8 e c then (bif joinOk n f ⟨#[32]⟩ then k0 (joinS n f ⟨#[32]⟩) else none) else _) = _
        cases hs : same8 e c with
        | false => dsimp only; rw [hs]; exact IH
        | true =>
          have hb : bulk ((wr i c).map (·.data.toList)) ≤ 6 * 21 := by
            refine Nat.le_trans (bulk_le (m := 20) (fun w hw => ?_)) (Nat.mul_le_mul (by simpa using w1) (Nat.le_refl _))
            obtain ⟨b, hb, rfl⟩ := List.mem_map.1 hw
            exact (w2 b hb).1
          dsimp only
          rw [hs, cond_true, joinOk_of hW.tl (by omega), cond_true, joinS_eq hW.tl, cond_true]
          rfl
def textO (c : C8) : Option ByteArray := firstT (fun j => tx j c) 0 16
theorem textP {c : C8} (hc : CB c) (α : Type) (k0 : ByteArray → Option α) (k1 : Option α) : parse_Text c.what c.kind c.port c.num c.vlan c.memb c.tagd c.mac k0 k1 = match textO c with
      | some t => k0 t
      | none => k1 := textP_loop hc α (fun r => k0 r) k1 16 0 18446744073709551616 (by omega) (by omega)
theorem w2b_data (w : ByteArray) : w2b w.data.toList = w := bl_inj rfl
theorem wr_9 (c : C8) : wr 9 c = [w2b [115, 116, 97, 116, 105, 99], macT c.mac, w2b [118, 108, 97, 110], itoaS c.vlan, w2b [112, 111, 114, 116], itoaS c.port] := by kernel_rfl
theorem wr_10 (c : C8) : wr 10 c = [w2b [110, 111], w2b [115, 116, 97, 116, 105, 99], macT c.mac, w2b [118, 108, 97, 110], itoaS c.vlan] := by kernel_rfl
theorem ex_0_1 (c : C8) : tk 1 (wr 0 c) = none := by kernel_rfl
theorem ex_0_2 (c : C8) : tk 2 (wr 0 c) = none := by kernel_rfl
theorem ex_0_3 (c : C8) : tk 3 (wr 0 c) = none := by kernel_rfl
theorem ex_0_4 (c : C8) : tk 4 (wr 0 c) = none := by kernel_rfl
theorem ex_0_5 (c : C8) : tk 5 (wr 0 c) = none := by kernel_rfl
theorem ex_0_6 (c : C8) : tk 6 (wr 0 c) = none := by kernel_rfl
theorem ex_0_7 (c : C8) : tk 7 (wr 0 c) = none := by kernel_rfl
theorem ex_0_8 (c : C8) : tk 8 (wr 0 c) = none := by kernel_rfl
theorem ex_0_9 (c : C8) : tk 9 (wr 0 c) = none := by kernel_rfl
theorem ex_0_10 (c : C8) : tk 10 (wr 0 c) = none := by kernel_rfl
theorem ex_0_11 (c : C8) : tk 11 (wr 0 c) = none := by kernel_rfl
theorem ex_0_12 (c : C8) : tk 12 (wr 0 c) = none := by kernel_rfl
theorem ex_0_13 (c : C8) : tk 13 (wr 0 c) = none := by kernel_rfl
theorem ex_0_14 (c : C8) : tk 14 (wr 0 c) = none := by kernel_rfl
theorem ex_0_15 (c : C8) : tk 15 (wr 0 c) = none := by kernel_rfl
theorem ex_1_0 (c : C8) : tk 0 (wr 1 c) = none := by kernel_rfl
theorem ex_1_2 (c : C8) : tk 2 (wr 1 c) = none := by kernel_rfl
theorem ex_1_3 (c : C8) : tk 3 (wr 1 c) = none := by kernel_rfl
theorem ex_1_4 (c : C8) : tk 4 (wr 1 c) = none := by kernel_rfl
theorem ex_1_5 (c : C8) : tk 5 (wr 1 c) = none := by kernel_rfl
theorem ex_1_6 (c : C8) : tk 6 (wr 1 c) = none := by kernel_rfl
theorem ex_1_7 (c : C8) : tk 7 (wr 1 c) = none := by kernel_rfl
theorem ex_1_8 (c : C8) : tk 8 (wr 1 c) = none := by kernel_rfl
theorem ex_1_9 (c : C8) : tk 9 (wr 1 c) = none := by kernel_rfl
theorem ex_1_10 (c : C8) : tk 10 (wr 1 c) = none := by kernel_rfl
theorem ex_1_11 (c : C8) : tk 11 (wr 1 c) = none := by kernel_rfl
theorem ex_1_12 (c : C8) : tk 12 (wr 1 c) = none := by kernel_rfl
theorem ex_1_13 (c : C8) : tk 13 (wr 1 c) = none := by kernel_rfl
theorem ex_1_14 (c : C8) : tk 14 (wr 1 c) = none := by kernel_rfl
theorem ex_1_15 (c : C8) : tk 15 (wr 1 c) = none := by kernel_rfl
theorem ex_2_0 (c : C8) : tk 0 (wr 2 c) = none := by kernel_rfl
theorem ex_2_1 (c : C8) : tk 1 (wr 2 c) = none := by kernel_rfl
theorem ex_2_3 (c : C8) : tk 3 (wr 2 c) = none := by kernel_rfl
theorem ex_2_4 (c : C8) : tk 4 (wr 2 c) = none := by kernel_rfl
theorem ex_2_5 (c : C8) : tk 5 (wr 2 c) = none := by kernel_rfl
theorem ex_2_6 (c : C8) : tk 6 (wr 2 c) = none := by kernel_rfl
theorem ex_2_7 (c : C8) : tk 7 (wr 2 c) = none := by kernel_rfl
theorem ex_2_8 (c : C8) : tk 8 (wr 2 c) = none := by kernel_rfl
theorem ex_2_9 (c : C8) : tk 9 (wr 2 c) = none := by kernel_rfl
theorem ex_2_10 (c : C8) : tk 10 (wr 2 c) = none := by kernel_rfl
theorem ex_2_11 (c : C8) : tk 11 (wr 2 c) = none := by kernel_rfl
theorem ex_2_12 (c : C8) : tk 12 (wr 2 c) = none := by kernel_rfl
theorem ex_2_13 (c : C8) : tk 13 (wr 2 c) = none := by kernel_rfl
theorem ex_2_14 (c : C8) : tk 14 (wr 2 c) = none := by kernel_rfl
theorem ex_2_15 (c : C8) : tk 15 (wr 2 c) = none := by kernel_rfl
theorem ex_3_0 (c : C8) : tk 0 (wr 3 c) = none := by kernel_rfl
theorem ex_3_1 (c : C8) : tk 1 (wr 3 c) = none := by kernel_rfl
theorem ex_3_2 (c : C8) : tk 2 (wr 3 c) = none := by kernel_rfl
theorem ex_3_4 (c : C8) : tk 4 (wr 3 c) = none := by 
  have e : tk 4 (wr 3 c) = ((bif numOk (itoaS c.port) && decide (numI (itoaS c.port) ≤ 255) then some ({ (ci 4) with port := numI (itoaS c.port) } : C8) else none).bind fun _ => none) := by kernel_rfl
  rw [e]; cases numOk (itoaS c.port) && decide (numI (itoaS c.port) ≤ 255) <;> rfl
theorem ex_3_5 (c : C8) : tk 5 (wr 3 c) = none := by kernel_rfl
theorem ex_3_6 (c : C8) : tk 6 (wr 3 c) = none := by kernel_rfl
theorem ex_3_7 (c : C8) : tk 7 (wr 3 c) = none := by kernel_rfl
theorem ex_3_8 (c : C8) : tk 8 (wr 3 c) = none := by kernel_rfl
theorem ex_3_9 (c : C8) : tk 9 (wr 3 c) = none := by kernel_rfl
theorem ex_3_10 (c : C8) : tk 10 (wr 3 c) = none := by kernel_rfl
theorem ex_3_11 (c : C8) : tk 11 (wr 3 c) = none := by kernel_rfl
theorem ex_3_12 (c : C8) : tk 12 (wr 3 c) = none := by kernel_rfl
theorem ex_3_13 (c : C8) : tk 13 (wr 3 c) = none := by kernel_rfl
theorem ex_3_14 (c : C8) : tk 14 (wr 3 c) = none := by kernel_rfl
theorem ex_3_15 (c : C8) : tk 15 (wr 3 c) = none := by kernel_rfl
theorem ex_4_0 (c : C8) : tk 0 (wr 4 c) = none := by kernel_rfl
theorem ex_4_1 (c : C8) : tk 1 (wr 4 c) = none := by kernel_rfl
theorem ex_4_2 (c : C8) : tk 2 (wr 4 c) = none := by kernel_rfl
theorem ex_4_3 (c : C8) : tk 3 (wr 4 c) = none := by 
  have e : tk 3 (wr 4 c) = ((bif numOk (itoaS c.port) && decide (numI (itoaS c.port) ≤ 255) then some ({ (ci 3) with port := numI (itoaS c.port) } : C8) else none).bind fun _ => none) := by kernel_rfl
  rw [e]; cases numOk (itoaS c.port) && decide (numI (itoaS c.port) ≤ 255) <;> rfl
theorem ex_4_5 (c : C8) : tk 5 (wr 4 c) = none := by kernel_rfl
theorem ex_4_6 (c : C8) : tk 6 (wr 4 c) = none := by kernel_rfl
theorem ex_4_7 (c : C8) : tk 7 (wr 4 c) = none := by kernel_rfl
theorem ex_4_8 (c : C8) : tk 8 (wr 4 c) = none := by kernel_rfl
theorem ex_4_9 (c : C8) : tk 9 (wr 4 c) = none := by kernel_rfl
theorem ex_4_10 (c : C8) : tk 10 (wr 4 c) = none := by kernel_rfl
theorem ex_4_11 (c : C8) : tk 11 (wr 4 c) = none := by kernel_rfl
theorem ex_4_12 (c : C8) : tk 12 (wr 4 c) = none := by kernel_rfl
theorem ex_4_13 (c : C8) : tk 13 (wr 4 c) = none := by kernel_rfl
theorem ex_4_14 (c : C8) : tk 14 (wr 4 c) = none := by kernel_rfl
theorem ex_4_15 (c : C8) : tk 15 (wr 4 c) = none := by kernel_rfl
theorem ex_5_0 (c : C8) : tk 0 (wr 5 c) = none := by kernel_rfl
theorem ex_5_1 (c : C8) : tk 1 (wr 5 c) = none := by kernel_rfl
theorem ex_5_2 (c : C8) : tk 2 (wr 5 c) = none := by kernel_rfl
theorem ex_5_3 (c : C8) : tk 3 (wr 5 c) = none := by kernel_rfl
theorem ex_5_4 (c : C8) : tk 4 (wr 5 c) = none := by kernel_rfl
theorem ex_5_6 (c : C8) : tk 6 (wr 5 c) = none := by 
  have e : tk 6 (wr 5 c) = ((bif numOk (itoaS c.port) && decide (numI (itoaS c.port) ≤ 255) then some ({ (ci 6) with port := numI (itoaS c.port) } : C8) else none).bind fun _ => none) := by kernel_rfl
  rw [e]; cases numOk (itoaS c.port) && decide (numI (itoaS c.port) ≤ 255) <;> rfl
theorem ex_5_7 (c : C8) : tk 7 (wr 5 c) = none := by kernel_rfl
theorem ex_5_8 (c : C8) : tk 8 (wr 5 c) = none := by kernel_rfl
theorem ex_5_9 (c : C8) : tk 9 (wr 5 c) = none := by kernel_rfl
theorem ex_5_10 (c : C8) : tk 10 (wr 5 c) = none := by kernel_rfl
theorem ex_5_11 (c : C8) : tk 11 (wr 5 c) = none := by kernel_rfl
theorem ex_5_12 (c : C8) : tk 12 (wr 5 c) = none := by kernel_rfl
theorem ex_5_13 (c : C8) : tk 13 (wr 5 c) = none := by kernel_rfl
theorem ex_5_14 (c : C8) : tk 14 (wr 5 c) = none := by kernel_rfl
theorem ex_5_15 (c : C8) : tk 15 (wr 5 c) = none := by kernel_rfl
theorem ex_6_0 (c : C8) : tk 0 (wr 6 c) = none := by kernel_rfl
theorem ex_6_1 (c : C8) : tk 1 (wr 6 c) = none := by kernel_rfl
theorem ex_6_2 (c : C8) : tk 2 (wr 6 c) = none := by kernel_rfl
theorem ex_6_3 (c : C8) : tk 3 (wr 6 c) = none := by kernel_rfl
theorem ex_6_4 (c : C8) : tk 4 (wr 6 c) = none := by kernel_rfl
theorem ex_6_5 (c : C8) : tk 5 (wr 6 c) = none := by 
  have e : tk 5 (wr 6 c) = ((bif numOk (itoaS c.port) && decide (numI (itoaS c.port) ≤ 255) then some ({ (ci 5) with port := numI (itoaS c.port) } : C8) else none).bind fun _ => none) := by kernel_rfl
  rw [e]; cases numOk (itoaS c.port) && decide (numI (itoaS c.port) ≤ 255) <;> rfl
theorem ex_6_7 (c : C8) : tk 7 (wr 6 c) = none := by kernel_rfl
theorem ex_6_8 (c : C8) : tk 8 (wr 6 c) = none := by kernel_rfl
theorem ex_6_9 (c : C8) : tk 9 (wr 6 c) = none := by kernel_rfl
theorem ex_6_10 (c : C8) : tk 10 (wr 6 c) = none := by kernel_rfl
theorem ex_6_11 (c : C8) : tk 11 (wr 6 c) = none := by kernel_rfl
theorem ex_6_12 (c : C8) : tk 12 (wr 6 c) = none := by kernel_rfl
theorem ex_6_13 (c : C8) : tk 13 (wr 6 c) = none := by kernel_rfl
theorem ex_6_14 (c : C8) : tk 14 (wr 6 c) = none := by kernel_rfl
theorem ex_6_15 (c : C8) : tk 15 (wr 6 c) = none := by kernel_rfl
theorem ex_7_0 (c : C8) : tk 0 (wr 7 c) = none := by kernel_rfl
theorem ex_7_1 (c : C8) : tk 1 (wr 7 c) = none := by kernel_rfl
theorem ex_7_2 (c : C8) : tk 2 (wr 7 c) = none := by kernel_rfl
theorem ex_7_3 (c : C8) : tk 3 (wr 7 c) = none := by kernel_rfl
theorem ex_7_4 (c : C8) : tk 4 (wr 7 c) = none := by kernel_rfl
theorem ex_7_5 (c : C8) : tk 5 (wr 7 c) = none := by kernel_rfl
theorem ex_7_6 (c : C8) : tk 6 (wr 7 c) = none := by kernel_rfl
theorem ex_7_8 (c : C8) : tk 8 (wr 7 c) = none := by kernel_rfl
theorem ex_7_9 (c : C8) : tk 9 (wr 7 c) = none := by kernel_rfl
theorem ex_7_10 (c : C8) : tk 10 (wr 7 c) = none := by kernel_rfl
theorem ex_7_11 (c : C8) : tk 11 (wr 7 c) = none := by kernel_rfl
theorem ex_7_12 (c : C8) : tk 12 (wr 7 c) = none := by kernel_rfl
theorem ex_7_13 (c : C8) : tk 13 (wr 7 c) = none := by kernel_rfl
theorem ex_7_14 (c : C8) : tk 14 (wr 7 c) = none := by kernel_rfl
theorem ex_7_15 (c : C8) : tk 15 (wr 7 c) = none := by kernel_rfl
theorem ex_8_0 (c : C8) : tk 0 (wr 8 c) = none := by kernel_rfl
theorem ex_8_1 (c : C8) : tk 1 (wr 8 c) = none := by kernel_rfl
theorem ex_8_2 (c : C8) : tk 2 (wr 8 c) = none := by kernel_rfl
theorem ex_8_3 (c : C8) : tk 3 (wr 8 c) = none := by kernel_rfl
theorem ex_8_4 (c : C8) : tk 4 (wr 8 c) = none := by kernel_rfl
theorem ex_8_5 (c : C8) : tk 5 (wr 8 c) = none := by kernel_rfl
theorem ex_8_6 (c : C8) : tk 6 (wr 8 c) = none := by kernel_rfl
theorem ex_8_7 (c : C8) : tk 7 (wr 8 c) = none := by kernel_rfl
theorem ex_8_9 (c : C8) : tk 9 (wr 8 c) = none := by kernel_rfl
theorem ex_8_10 (c : C8) : tk 10 (wr 8 c) = none := by kernel_rfl
theorem ex_8_11 (c : C8) : tk 11 (wr 8 c) = none := by kernel_rfl
theorem ex_8_12 (c : C8) : tk 12 (wr 8 c) = none := by kernel_rfl
theorem ex_8_13 (c : C8) : tk 13 (wr 8 c) = none := by kernel_rfl
theorem ex_8_14 (c : C8) : tk 14 (wr 8 c) = none := by kernel_rfl
theorem ex_8_15 (c : C8) : tk 15 (wr 8 c) = none := by kernel_rfl
theorem ex_9_0 (c : C8) : tk 0 (wr 9 c) = none := by kernel_rfl
theorem ex_9_1 (c : C8) : tk 1 (wr 9 c) = none := by kernel_rfl
theorem ex_9_2 (c : C8) : tk 2 (wr 9 c) = none := by kernel_rfl
theorem ex_9_3 (c : C8) : tk 3 (wr 9 c) = none := by kernel_rfl
theorem ex_9_4 (c : C8) : tk 4 (wr 9 c) = none := by kernel_rfl
theorem ex_9_5 (c : C8) : tk 5 (wr 9 c) = none := by kernel_rfl
theorem ex_9_6 (c : C8) : tk 6 (wr 9 c) = none := by kernel_rfl
theorem ex_9_7 (c : C8) : tk 7 (wr 9 c) = none := by kernel_rfl
theorem ex_9_8 (c : C8) : tk 8 (wr 9 c) = none := by kernel_rfl
theorem ex_9_10 (c : C8) : tk 10 (wr 9 c) = none := by kernel_rfl
theorem ex_9_11 (c : C8) : tk 11 (wr 9 c) = none := by kernel_rfl
theorem ex_9_12 (c : C8) : tk 12 (wr 9 c) = none := by kernel_rfl
theorem ex_9_13 (c : C8) : tk 13 (wr 9 c) = none := by kernel_rfl
theorem ex_9_14 (c : C8) : tk 14 (wr 9 c) = none := by kernel_rfl
theorem ex_9_15 (c : C8) : tk 15 (wr 9 c) = none := by kernel_rfl
theorem ex_10_0 (c : C8) : tk 0 (wr 10 c) = none := by kernel_rfl
theorem ex_10_1 (c : C8) : tk 1 (wr 10 c) = none := by kernel_rfl
theorem ex_10_2 (c : C8) : tk 2 (wr 10 c) = none := by kernel_rfl
theorem ex_10_3 (c : C8) : tk 3 (wr 10 c) = none := by kernel_rfl
theorem ex_10_4 (c : C8) : tk 4 (wr 10 c) = none := by kernel_rfl
theorem ex_10_5 (c : C8) : tk 5 (wr 10 c) = none := by kernel_rfl
theorem ex_10_6 (c : C8) : tk 6 (wr 10 c) = none := by kernel_rfl
theorem ex_10_7 (c : C8) : tk 7 (wr 10 c) = none := by kernel_rfl
theorem ex_10_8 (c : C8) : tk 8 (wr 10 c) = none := by kernel_rfl
theorem ex_10_9 (c : C8) : tk 9 (wr 10 c) = none := by kernel_rfl
theorem ex_10_11 (c : C8) : tk 11 (wr 10 c) = none := by kernel_rfl
theorem ex_10_12 (c : C8) : tk 12 (wr 10 c) = none := by kernel_rfl
theorem ex_10_13 (c : C8) : tk 13 (wr 10 c) = none := by kernel_rfl
theorem ex_10_14 (c : C8) : tk 14 (wr 10 c) = none := by kernel_rfl
theorem ex_10_15 (c : C8) : tk 15 (wr 10 c) = none := by kernel_rfl
theorem ex_11_0 (c : C8) : tk 0 (wr 11 c) = none := by kernel_rfl
theorem ex_11_1 (c : C8) : tk 1 (wr 11 c) = none := by kernel_rfl
theorem ex_11_2 (c : C8) : tk 2 (wr 11 c) = none := by kernel_rfl
theorem ex_11_3 (c : C8) : tk 3 (wr 11 c) = none := by kernel_rfl
theorem ex_11_4 (c : C8) : tk 4 (wr 11 c) = none := by kernel_rfl
theorem ex_11_5 (c : C8) : tk 5 (wr 11 c) = none := by kernel_rfl
theorem ex_11_6 (c : C8) : tk 6 (wr 11 c) = none := by kernel_rfl
theorem ex_11_7 (c : C8) : tk 7 (wr 11 c) = none := by kernel_rfl
theorem ex_11_8 (c : C8) : tk 8 (wr 11 c) = none := by kernel_rfl
theorem ex_11_9 (c : C8) : tk 9 (wr 11 c) = none := by kernel_rfl
theorem ex_11_10 (c : C8) : tk 10 (wr 11 c) = none := by kernel_rfl
theorem ex_11_12 (c : C8) : tk 12 (wr 11 c) = none := by kernel_rfl
theorem ex_11_13 (c : C8) : tk 13 (wr 11 c) = none := by kernel_rfl
theorem ex_11_14 (c : C8) : tk 14 (wr 11 c) = none := by kernel_rfl
theorem ex_11_15 (c : C8) : tk 15 (wr 11 c) = none := by kernel_rfl
theorem ex_12_0 (c : C8) : tk 0 (wr 12 c) = none := by kernel_rfl
theorem ex_12_1 (c : C8) : tk 1 (wr 12 c) = none := by kernel_rfl
theorem ex_12_2 (c : C8) : tk 2 (wr 12 c) = none := by kernel_rfl
theorem ex_12_3 (c : C8) : tk 3 (wr 12 c) = none := by kernel_rfl
theorem ex_12_4 (c : C8) : tk 4 (wr 12 c) = none := by kernel_rfl
theorem ex_12_5 (c : C8) : tk 5 (wr 12 c) = none := by kernel_rfl
theorem ex_12_6 (c : C8) : tk 6 (wr 12 c) = none := by kernel_rfl
theorem ex_12_7 (c : C8) : tk 7 (wr 12 c) = none := by kernel_rfl
theorem ex_12_8 (c : C8) : tk 8 (wr 12 c) = none := by kernel_rfl
theorem ex_12_9 (c : C8) : tk 9 (wr 12 c) = none := by kernel_rfl
theorem ex_12_10 (c : C8) : tk 10 (wr 12 c) = none := by kernel_rfl
theorem ex_12_11 (c : C8) : tk 11 (wr 12 c) = none := by kernel_rfl
theorem ex_12_13 (c : C8) : tk 13 (wr 12 c) = none := by kernel_rfl
theorem ex_12_14 (c : C8) : tk 14 (wr 12 c) = none := by kernel_rfl
theorem ex_12_15 (c : C8) : tk 15 (wr 12 c) = none := by kernel_rfl
theorem ex_13_0 (c : C8) : tk 0 (wr 13 c) = none := by kernel_rfl
theorem ex_13_1 (c : C8) : tk 1 (wr 13 c) = none := by kernel_rfl
theorem ex_13_2 (c : C8) : tk 2 (wr 13 c) = none := by kernel_rfl
theorem ex_13_3 (c : C8) : tk 3 (wr 13 c) = none := by kernel_rfl
theorem ex_13_4 (c : C8) : tk 4 (wr 13 c) = none := by kernel_rfl
theorem ex_13_5 (c : C8) : tk 5 (wr 13 c) = none := by kernel_rfl
theorem ex_13_6 (c : C8) : tk 6 (wr 13 c) = none := by kernel_rfl
theorem ex_13_7 (c : C8) : tk 7 (wr 13 c) = none := by kernel_rfl
theorem ex_13_8 (c : C8) : tk 8 (wr 13 c) = none := by kernel_rfl
theorem ex_13_9 (c : C8) : tk 9 (wr 13 c) = none := by kernel_rfl
theorem ex_13_10 (c : C8) : tk 10 (wr 13 c) = none := by kernel_rfl
theorem ex_13_11 (c : C8) : tk 11 (wr 13 c) = none := by kernel_rfl
theorem ex_13_12 (c : C8) : tk 12 (wr 13 c) = none := by kernel_rfl
theorem ex_13_14 (c : C8) : tk 14 (wr 13 c) = none := by kernel_rfl
theorem ex_13_15 (c : C8) : tk 15 (wr 13 c) = none := by kernel_rfl
theorem ex_14_0 (c : C8) : tk 0 (wr 14 c) = none := by kernel_rfl
theorem ex_14_1 (c : C8) : tk 1 (wr 14 c) = none := by kernel_rfl
theorem ex_14_2 (c : C8) : tk 2 (wr 14 c) = none := by kernel_rfl
theorem ex_14_3 (c : C8) : tk 3 (wr 14 c) = none := by kernel_rfl
theorem ex_14_4 (c : C8) : tk 4 (wr 14 c) = none := by kernel_rfl
theorem ex_14_5 (c : C8) : tk 5 (wr 14 c) = none := by kernel_rfl
theorem ex_14_6 (c : C8) : tk 6 (wr 14 c) = none := by kernel_rfl
theorem ex_14_7 (c : C8) : tk 7 (wr 14 c) = none := by kernel_rfl
theorem ex_14_8 (c : C8) : tk 8 (wr 14 c) = none := by kernel_rfl
theorem ex_14_9 (c : C8) : tk 9 (wr 14 c) = none := by kernel_rfl
theorem ex_14_10 (c : C8) : tk 10 (wr 14 c) = none := by kernel_rfl
theorem ex_14_11 (c : C8) : tk 11 (wr 14 c) = none := by kernel_rfl
theorem ex_14_12 (c : C8) : tk 12 (wr 14 c) = none := by kernel_rfl
theorem ex_14_13 (c : C8) : tk 13 (wr 14 c) = none := by kernel_rfl
theorem ex_14_15 (c : C8) : tk 15 (wr 14 c) = none := by kernel_rfl
theorem ex_15_0 (c : C8) : tk 0 (wr 15 c) = none := by kernel_rfl
theorem ex_15_1 (c : C8) : tk 1 (wr 15 c) = none := by kernel_rfl
theorem ex_15_2 (c : C8) : tk 2 (wr 15 c) = none := by kernel_rfl
theorem ex_15_3 (c : C8) : tk 3 (wr 15 c) = none := by kernel_rfl
theorem ex_15_4 (c : C8) : tk 4 (wr 15 c) = none := by kernel_rfl
theorem ex_15_5 (c : C8) : tk 5 (wr 15 c) = none := by kernel_rfl
theorem ex_15_6 (c : C8) : tk 6 (wr 15 c) = none := by kernel_rfl
theorem ex_15_7 (c : C8) : tk 7 (wr 15 c) = none := by kernel_rfl
theorem ex_15_8 (c : C8) : tk 8 (wr 15 c) = none := by kernel_rfl
theorem ex_15_9 (c : C8) : tk 9 (wr 15 c) = none := by kernel_rfl
theorem ex_15_10 (c : C8) : tk 10 (wr 15 c) = none := by kernel_rfl
theorem ex_15_11 (c : C8) : tk 11 (wr 15 c) = none := by kernel_rfl
theorem ex_15_12 (c : C8) : tk 12 (wr 15 c) = none := by kernel_rfl
theorem ex_15_13 (c : C8) : tk 13 (wr 15 c) = none := by kernel_rfl
theorem ex_15_14 (c : C8) : tk 14 (wr 15 c) = none := by kernel_rfl
theorem excl (c : C8) (i j : Nat) (hi : i < 16) (hj : j < 16) (hne : j ≠ i) : tk j (wr i c) = none := by
  match i, hi, j, hj with
  | 0, _, 0, _ => exact absurd rfl hne
  | 0, _, 1, _ => exact ex_0_1 c
  | 0, _, 2, _ => exact ex_0_2 c
  | 0, _, 3, _ => exact ex_0_3 c
  | 0, _, 4, _ => exact ex_0_4 c
  | 0, _, 5, _ => exact ex_0_5 c
  | 0, _, 6, _ => exact ex_0_6 c
  | 0, _, 7, _ => exact ex_0_7 c
  | 0, _, 8, _ => exact ex_0_8 c
  | 0, _, 9, _ => exact ex_0_9 c
  | 0, _, 10, _ => exact ex_0_10 c
  | 0, _, 11, _ => exact ex_0_11 c
  | 0, _, 12, _ => exact ex_0_12 c
  | 0, _, 13, _ => exact ex_0_13 c
  | 0, _, 14, _ => exact ex_0_14 c
  | 0, _, 15, _ => exact ex_0_15 c
  | 1, _, 0, _ => exact ex_1_0 c
  | 1, _, 1, _ => exact absurd rfl hne
  | 1, _, 2, _ => exact ex_1_2 c
  | 1, _, 3, _ => exact ex_1_3 c
  | 1, _, 4, _ => exact ex_1_4 c
  | 1, _, 5, _ => exact ex_1_5 c
  | 1, _, 6, _ => exact ex_1_6 c
  | 1, _, 7, _ => exact ex_1_7 c
  | 1, _, 8, _ => exact ex_1_8 c
  | 1, _, 9, _ => exact ex_1_9 c
  | 1, _, 10, _ => exact ex_1_10 c
  | 1, _, 11, _ => exact ex_1_11 c
  | 1, _, 12, _ => exact ex_1_12 c
  | 1, _, 13, _ => exact ex_1_13 c
  | 1, _, 14, _ => exact ex_1_14 c
  | 1, _, 15, _ => exact ex_1_15 c
  | 2, _, 0, _ => exact ex_2_0 c
  | 2, _, 1, _ => exact ex_2_1 c
  | 2, _, 2, _ => exact absurd rfl hne
  | 2, _, 3, _ => exact ex_2_3 c
  | 2, _, 4, _ => exact ex_2_4 c
  | 2, _, 5, _ => exact ex_2_5 c
  | 2, _, 6, _ => exact ex_2_6 c
  | 2, _, 7, _ => exact ex_2_7 c
  | 2, _, 8, _ => exact ex_2_8 c
  | 2, _, 9, _ => exact ex_2_9 c
  | 2, _, 10, _ => exact ex_2_10 c
  | 2, _, 11, _ => exact ex_2_11 c
  | 2, _, 12, _ => exact ex_2_12 c
  | 2, _, 13, _ => exact ex_2_13 c
  | 2, _, 14, _ => exact ex_2_14 c
  | 2, _, 15, _ => exact ex_2_15 c
  | 3, _, 0, _ => exact ex_3_0 c
  | 3, _, 1, _ => exact ex_3_1 c
  | 3, _, 2, _ => exact ex_3_2 c
  | 3, _, 3, _ => exact absurd rfl hne
  | 3, _, 4, _ => exact ex_3_4 c
  | 3, _, 5, _ => exact ex_3_5 c
  | 3, _, 6, _ => exact ex_3_6 c
  | 3, _, 7, _ => exact ex_3_7 c
  | 3, _, 8, _ => exact ex_3_8 c
  | 3, _, 9, _ => exact ex_3_9 c
  | 3, _, 10, _ => exact ex_3_10 c
  | 3, _, 11, _ => exact ex_3_11 c
  | 3, _, 12, _ => exact ex_3_12 c
  | 3, _, 13, _ => exact ex_3_13 c
  | 3, _, 14, _ => exact ex_3_14 c
  | 3, _, 15, _ => exact ex_3_15 c
  | 4, _, 0, _ => exact ex_4_0 c
  | 4, _, 1, _ => exact ex_4_1 c
  | 4, _, 2, _ => exact ex_4_2 c
  | 4, _, 3, _ => exact ex_4_3 c
  | 4, _, 4, _ => exact absurd rfl hne
  | 4, _, 5, _ => exact ex_4_5 c
  | 4, _, 6, _ => exact ex_4_6 c
  | 4, _, 7, _ => exact ex_4_7 c
  | 4, _, 8, _ => exact ex_4_8 c
  | 4, _, 9, _ => exact ex_4_9 c
  | 4, _, 10, _ => exact ex_4_10 c
  | 4, _, 11, _ => exact ex_4_11 c
  | 4, _, 12, _ => exact ex_4_12 c
  | 4, _, 13, _ => exact ex_4_13 c
  | 4, _, 14, _ => exact ex_4_14 c
  | 4, _, 15, _ => exact ex_4_15 c
  | 5, _, 0, _ => exact ex_5_0 c
  | 5, _, 1, _ => exact ex_5_1 c
  | 5, _, 2, _ => exact ex_5_2 c
  | 5, _, 3, _ => exact ex_5_3 c
  | 5, _, 4, _ => exact ex_5_4 c
  | 5, _, 5, _ => exact absurd rfl hne
  | 5, _, 6, _ => exact ex_5_6 c
  | 5, _, 7, _ => exact ex_5_7 c
  | 5, _, 8, _ => exact ex_5_8 c
  | 5, _, 9, _ => exact ex_5_9 c
  | 5, _, 10, _ => exact ex_5_10 c
  | 5, _, 11, _ => exact ex_5_11 c
  | 5, _, 12, _ => exact ex_5_12 c
  | 5, _, 13, _ => exact ex_5_13 c
  | 5, _, 14, _ => exact ex_5_14 c
  | 5, _, 15, _ => exact ex_5_15 c
  | 6, _, 0, _ => exact ex_6_0 c
  | 6, _, 1, _ => exact ex_6_1 c
  | 6, _, 2, _ => exact ex_6_2 c
  | 6, _, 3, _ => exact ex_6_3 c
  | 6, _, 4, _ => exact ex_6_4 c
  | 6, _, 5, _ => exact ex_6_5 c
  | 6, _, 6, _ => exact absurd rfl hne
  | 6, _, 7, _ => exact ex_6_7 c
  | 6, _, 8, _ => exact ex_6_8 c
  | 6, _, 9, _ => exact ex_6_9 c
  | 6, _, 10, _ => exact ex_6_10 c
  | 6, _, 11, _ => exact ex_6_11 c
  | 6, _, 12, _ => exact ex_6_12 c
  | 6, _, 13, _ => exact ex_6_13 c
  | 6, _, 14, _ => exact ex_6_14 c
  | 6, _, 15, _ => exact ex_6_15 c
  | 7, _, 0, _ => exact ex_7_0 c
  | 7, _, 1, _ => exact ex_7_1 c
  | 7, _, 2, _ => exact ex_7_2 c
  | 7, _, 3, _ => exact ex_7_3 c
  | 7, _, 4, _ => exact ex_7_4 c
  | 7, _, 5, _ => exact ex_7_5 c
  | 7, _, 6, _ => exact ex_7_6 c
  | 7, _, 7, _ => exact absurd rfl hne
  | 7, _, 8, _ => exact ex_7_8 c
  | 7, _, 9, _ => exact ex_7_9 c
  | 7, _, 10, _ => exact ex_7_10 c
  | 7, _, 11, _ => exact ex_7_11 c
  | 7, _, 12, _ => exact ex_7_12 c
  | 7, _, 13, _ => exact ex_7_13 c
  | 7, _, 14, _ => exact ex_7_14 c
  | 7, _, 15, _ => exact ex_7_15 c
  | 8, _, 0, _ => exact ex_8_0 c
  | 8, _, 1, _ => exact ex_8_1 c
  | 8, _, 2, _ => exact ex_8_2 c
  | 8, _, 3, _ => exact ex_8_3 c
  | 8, _, 4, _ => exact ex_8_4 c
  | 8, _, 5, _ => exact ex_8_5 c
  | 8, _, 6, _ => exact ex_8_6 c
  | 8, _, 7, _ => exact ex_8_7 c
  | 8, _, 8, _ => exact absurd rfl hne
  | 8, _, 9, _ => exact ex_8_9 c
  | 8, _, 10, _ => exact ex_8_10 c
  | 8, _, 11, _ => exact ex_8_11 c
  | 8, _, 12, _ => exact ex_8_12 c
  | 8, _, 13, _ => exact ex_8_13 c
  | 8, _, 14, _ => exact ex_8_14 c
  | 8, _, 15, _ => exact ex_8_15 c
  | 9, _, 0, _ => exact ex_9_0 c
  | 9, _, 1, _ => exact ex_9_1 c
  | 9, _, 2, _ => exact ex_9_2 c
  | 9, _, 3, _ => exact ex_9_3 c
  | 9, _, 4, _ => exact ex_9_4 c
  | 9, _, 5, _ => exact ex_9_5 c
  | 9, _, 6, _ => exact ex_9_6 c
  | 9, _, 7, _ => exact ex_9_7 c
  | 9, _, 8, _ => exact ex_9_8 c
  | 9, _, 9, _ => exact absurd rfl hne
  | 9, _, 10, _ => exact ex_9_10 c
  | 9, _, 11, _ => exact ex_9_11 c
  | 9, _, 12, _ => exact ex_9_12 c
  | 9, _, 13, _ => exact ex_9_13 c
  | 9, _, 14, _ => exact ex_9_14 c
  | 9, _, 15, _ => exact ex_9_15 c
  | 10, _, 0, _ => exact ex_10_0 c
  | 10, _, 1, _ => exact ex_10_1 c
  | 10, _, 2, _ => exact ex_10_2 c
  | 10, _, 3, _ => exact ex_10_3 c
  | 10, _, 4, _ => exact ex_10_4 c
  | 10, _, 5, _ => exact ex_10_5 c
  | 10, _, 6, _ => exact ex_10_6 c
  | 10, _, 7, _ => exact ex_10_7 c
  | 10, _, 8, _ => exact ex_10_8 c
  | 10, _, 9, _ => exact ex_10_9 c
  | 10, _, 10, _ => exact absurd rfl hne
  | 10, _, 11, _ => exact ex_10_11 c
  | 10, _, 12, _ => exact ex_10_12 c
  | 10, _, 13, _ => exact ex_10_13 c
  | 10, _, 14, _ => exact ex_10_14 c
  | 10, _, 15, _ => exact ex_10_15 c
  | 11, _, 0, _ => exact ex_11_0 c
  | 11, _, 1, _ => exact ex_11_1 c
  | 11, _, 2, _ => exact ex_11_2 c
  | 11, _, 3, _ => exact ex_11_3 c
  | 11, _, 4, _ => exact ex_11_4 c
  | 11, _, 5, _ => exact ex_11_5 c
  | 11, _, 6, _ => exact ex_11_6 c
  | 11, _, 7, _ => exact ex_11_7 c
  | 11, _, 8, _ => exact ex_11_8 c
  | 11, _, 9, _ => exact ex_11_9 c
  | 11, _, 10, _ => exact ex_11_10 c
  | 11, _, 11, _ => exact absurd rfl hne
  | 11, _, 12, _ => exact ex_11_12 c
  | 11, _, 13, _ => exact ex_11_13 c
  | 11, _, 14, _ => exact ex_11_14 c
  | 11, _, 15, _ => exact ex_11_15 c
  | 12, _, 0, _ => exact ex_12_0 c
  | 12, _, 1, _ => exact ex_12_1 c
  | 12, _, 2, _ => exact ex_12_2 c
  | 12, _, 3, _ => exact ex_12_3 c
  | 12, _, 4, _ => exact ex_12_4 c
  | 12, _, 5, _ => exact ex_12_5 c
  | 12, _, 6, _ => exact ex_12_6 c
  | 12, _, 7, _ => exact ex_12_7 c
  | 12, _, 8, _ => exact ex_12_8 c
  | 12, _, 9, _ => exact ex_12_9 c
  | 12, _, 10, _ => exact ex_12_10 c
  | 12, _, 11, _ => exact ex_12_11 c
  | 12, _, 12, _ => exact absurd rfl hne
  | 12, _, 13, _ => exact ex_12_13 c
  | 12, _, 14, _ => exact ex_12_14 c
  | 12, _, 15, _ => exact ex_12_15 c
  | 13, _, 0, _ => exact ex_13_0 c
  | 13, _, 1, _ => exact ex_13_1 c
  | 13, _, 2, _ => exact ex_13_2 c
  | 13, _, 3, _ => exact ex_13_3 c
  | 13, _, 4, _ => exact ex_13_4 c
  | 13, _, 5, _ => exact ex_13_5 c
  | 13, _, 6, _ => exact ex_13_6 c
  | 13, _, 7, _ => exact ex_13_7 c
  | 13, _, 8, _ => exact ex_13_8 c
  | 13, _, 9, _ => exact ex_13_9 c
  | 13, _, 10, _ => exact ex_13_10 c
  | 13, _, 11, _ => exact ex_13_11 c
  | 13, _, 12, _ => exact ex_13_12 c
  | 13, _, 13, _ => exact absurd rfl hne
  | 13, _, 14, _ => exact ex_13_14 c
  | 13, _, 15, _ => exact ex_13_15 c
  | 14, _, 0, _ => exact ex_14_0 c
  | 14, _, 1, _ => exact ex_14_1 c
  | 14, _, 2, _ => exact ex_14_2 c
  | 14, _, 3, _ => exact ex_14_3 c
  | 14, _, 4, _ => exact ex_14_4 c
  | 14, _, 5, _ => exact ex_14_5 c
  | 14, _, 6, _ => exact ex_14_6 c
  | 14, _, 7, _ => exact ex_14_7 c
  | 14, _, 8, _ => exact ex_14_8 c
  | 14, _, 9, _ => exact ex_14_9 c
  | 14, _, 10, _ => exact ex_14_10 c
  | 14, _, 11, _ => exact ex_14_11 c
  | 14, _, 12, _ => exact ex_14_12 c
  | 14, _, 13, _ => exact ex_14_13 c
  | 14, _, 14, _ => exact absurd rfl hne
  | 14, _, 15, _ => exact ex_14_15 c
  | 15, _, 0, _ => exact ex_15_0 c
  | 15, _, 1, _ => exact ex_15_1 c
  | 15, _, 2, _ => exact ex_15_2 c
  | 15, _, 3, _ => exact ex_15_3 c
  | 15, _, 4, _ => exact ex_15_4 c
  | 15, _, 5, _ => exact ex_15_5 c
  | 15, _, 6, _ => exact ex_15_6 c
  | 15, _, 7, _ => exact ex_15_7 c
  | 15, _, 8, _ => exact ex_15_8 c
  | 15, _, 9, _ => exact ex_15_9 c
  | 15, _, 10, _ => exact ex_15_10 c
  | 15, _, 11, _ => exact ex_15_11 c
  | 15, _, 12, _ => exact ex_15_12 c
  | 15, _, 13, _ => exact ex_15_13 c
  | 15, _, 14, _ => exact ex_15_14 c
  | 15, _, 15, _ => exact absurd rfl hne
  | n + 16, h, _, _ => omega
  | 0, _, n + 16, h => omega
  | 1, _, n + 16, h => omega
  | 2, _, n + 16, h => omega
  | 3, _, n + 16, h => omega
  | 4, _, n + 16, h => omega
  | 5, _, n + 16, h => omega
  | 6, _, n + 16, h => omega
  | 7, _, n + 16, h => omega
  | 8, _, n + 16, h => omega
  | 9, _, n + 16, h => omega
  | 10, _, n + 16, h => omega
  | 11, _, n + 16, h => omega
  | 12, _, n + 16, h => omega
  | 13, _, n + 16, h => omega
  | 14, _, n + 16, h => omega
  | 15, _, n + 16, h => omega
theorem first_at {F : Nat → Option C8} {i : Nat} : ∀ (d k : Nat), (∀ j, k ≤ j → j < k + d → j ≠ i → F j = none) → first F k d = (if k ≤ i ∧ i < k + d then F i else none)
  | 0, k, h => by rw [if_neg (by omega)]; rfl
  | d + 1, k, h => by
    unfold first
    by_cases e : k = i
    · subst e
      rw [if_pos (by omega), first_at d (k + 1) (fun j h1 h2 h3 => h j (by omega) (by omega) h3), if_neg (by omega)]
      cases F k <;> rfl
    · rw [h k (Nat.le_refl _) (by omega) e]
      show first F (k + 1) d = _
      rw [first_at d (k + 1) (fun j h1 h2 h3 => h j (by omega) (by omega) h3)]
      by_cases hh : k ≤ i ∧ i < k + (d + 1)
      · rw [if_pos hh, if_pos (by omega)]
      · rw [if_neg hh, if_neg (by omega)]
theorem find_only (c : C8) (i : Nat) (hi : i < 16) : find (wr i c) = tk i (wr i c) := by
  unfold find
  rw [first_at (i := i) 16 0 (fun j _ h2 h3 => excl c i j hi (by omega) h3), if_pos (by omega)]
theorem f9 (x y : ByteArray) : find [w2b [115, 116, 97, 116, 105, 99], w2b [118, 108, 97, 110], x, w2b [112, 111, 114, 116], y] = none := by kernel_rfl
theorem f10 (x : ByteArray) : find [w2b [110, 111], w2b [115, 116, 97, 116, 105, 99], w2b [118, 108, 97, 110], x] = none := by kernel_rfl
theorem noA (i : Nat) (hi : i < 16) (h9 : i ≠ 9) (h10 : i ≠ 10) : ∀ a ∈ Vs i, (a.data.toList == [65]) = false := by
  have h : (List.range 16).all (fun i => i == 9 || i == 10 || (Vs i).all (fun a => !(a.data.toList == [65]))) = true := by kernel_rfl
  have h1 := List.all_eq_true.1 h i (List.mem_range.2 hi)
  rw [show (i == 9) = false from beq_false_of_ne h9, show (i == 10) = false from beq_false_of_ne h10, Bool.false_or, Bool.false_or] at h1
  intro a ha
  have := List.all_eq_true.1 h1 a ha
  cases hh : a.data.toList == [65] with
  | false => rfl
  | true => rw [hh] at this; exact absurd this (by decide)
theorem ne_keep : ∀ {L : List (List UInt8)}, (∀ w ∈ L, w ≠ []) → ne L = L
  | [], _ => rfl
  | x :: L, h => by
    rw [ne_cons, ne_keep (fun w hw => h w (List.mem_cons_of_mem _ hw))]
    cases x with
    | nil => exact absurd rfl (h [] (List.mem_cons_self ..))
    | cons a l => rfl
theorem find_wr {c : C8} (hc : CB c) (i : Nat) (hi : i < 16) : find ((ne ((wr i c).map (·.data.toList))).map w2b) = tk i (wr i c) := by
  obtain ⟨w1, w2, w3⟩ := wr_fit hi hc
  by_cases hE : ∃ w ∈ wr i c, w.data.toList = []
  · rw [tk_empty hi hE]
    have f1 := (itoa_fit hc.v).2.1
    have f2 := (itoa_fit hc.p).2.1
    have g1 : (itoaS c.vlan).data.toList.isEmpty = false := by cases h : (itoaS c.vlan).data.toList with | nil => exact absurd h f1 | cons a l => rfl
    have g2 : (itoaS c.port).data.toList.isEmpty = false := by cases h : (itoaS c.port).data.toList with | nil => exact absurd h f2 | cons a l => rfl
    have n1 : ne [(itoaS c.vlan).data.toList] = [(itoaS c.vlan).data.toList] := ne_keep (by simpa using f1)
    have n2 : ne [(itoaS c.port).data.toList] = [(itoaS c.port).data.toList] := ne_keep (by simpa using f2)
    by_cases h9 : i = 9
    · subst h9
      rw [wr_9] at hE ⊢
      have hm : (macT c.mac).data.toList = [] := by
        obtain ⟨w, hw, he⟩ := hE
        simp only [List.mem_cons, List.not_mem_nil, or_false] at hw
        rcases hw with rfl | rfl | rfl | rfl | rfl | rfl
        · exact absurd he (by decide)
        · exact he
        · exact absurd he (by decide)
        · exact absurd he f1
        · exact absurd he (by decide)
        · exact absurd he f2
      have e : ne ([w2b [115, 116, 97, 116, 105, 99], macT c.mac, w2b [118, 108, 97, 110], itoaS c.vlan, w2b [112, 111, 114, 116], itoaS c.port].map (·.data.toList)) = [[115, 116, 97, 116, 105, 99], [118, 108, 97, 110]] ++ ne [(itoaS c.vlan).data.toList] ++ [[112, 111, 114, 116]] ++ ne [(itoaS c.port).data.toList] := by
        show ne [[115, 116, 97, 116, 105, 99], (macT c.mac).data.toList, [118, 108, 97, 110], (itoaS c.vlan).data.toList, [112, 111, 114, 116], (itoaS c.port).data.toList] = _
        rw [hm]
        simp [ne_cons, g1, g2, ne_nil]
      rw [e, n1, n2]
      show find [w2b [115, 116, 97, 116, 105, 99], w2b [118, 108, 97, 110], w2b (itoaS c.vlan).data.toList, w2b [112, 111, 114, 116], w2b (itoaS c.port).data.toList] = none
      exact f9 _ _
    by_cases h10 : i = 10
    · subst h10
      rw [wr_10] at hE ⊢
      have hm : (macT c.mac).data.toList = [] := by
        obtain ⟨w, hw, he⟩ := hE
        simp only [List.mem_cons, List.not_mem_nil, or_false] at hw
        rcases hw with rfl | rfl | rfl | rfl | rfl
        · exact absurd he (by decide)
        · exact absurd he (by decide)
        · exact he
        · exact absurd he (by decide)
        · exact absurd he f1
      have e : ne ([w2b [110, 111], w2b [115, 116, 97, 116, 105, 99], macT c.mac, w2b [118, 108, 97, 110], itoaS c.vlan].map (·.data.toList)) = [[110, 111], [115, 116, 97, 116, 105, 99], [118, 108, 97, 110]] ++ ne [(itoaS c.vlan).data.toList] := by
        show ne [[110, 111], [115, 116, 97, 116, 105, 99], (macT c.mac).data.toList, [118, 108, 97, 110], (itoaS c.vlan).data.toList] = _
        rw [hm]
        simp [ne_cons, g1, ne_nil]
      rw [e, n1]
      show find [w2b [110, 111], w2b [115, 116, 97, 116, 105, 99], w2b [118, 108, 97, 110], w2b (itoaS c.vlan).data.toList] = none
      exact f10 _
    · obtain ⟨w, hw, he⟩ := hE
      exact absurd he (w3 (noA i hi h9 h10) w hw)
  · have : ne ((wr i c).map (·.data.toList)) = (wr i c).map (·.data.toList) := ne_keep fun w hw e => by
      obtain ⟨b, hb, rfl⟩ := List.mem_map.1 hw
      exact hE ⟨b, hb, e⟩
    rw [this, List.map_map, show (w2b ∘ fun (w : ByteArray) => w.data.toList) = id from funext w2b_data, List.map_id]
    exact find_only c i hi
def tl8 (i : Nat) (c : C8) : ByteArray := w2b (joinW (ne ((wr i c).map (·.data.toList))))
theorem line_wr {c : C8} (hc : CB c) (i : Nat) (hi : i < 16) : (tl8 i c).size ≤ 126 ∧ find (WB (tl8 i c)) = tk i (wr i c) := by
  obtain ⟨w1, w2, w3⟩ := wr_fit hi hc
  have hg : Ve.Good (ne ((wr i c).map (·.data.toList))) := fun w hw => by
    have hw' := List.mem_filter.1 hw
    obtain ⟨b, hb, rfl⟩ := List.mem_map.1 hw'.1
    refine ⟨fun e => ?_, (w2 b hb).2⟩
    have := hw'.2
    rw [e] at this; exact absurd this (by decide)
  refine ⟨?_, ?_⟩
  · have hb : bulk ((wr i c).map (·.data.toList)) ≤ 6 * 21 := by
      refine Nat.le_trans (bulk_le (m := 20) (fun w hw => ?_)) (Nat.mul_le_mul (by simpa using w1) (Nat.le_refl _))
      obtain ⟨b, hb, rfl⟩ := List.mem_map.1 hw
      exact (w2 b hb).1
    have h1 := bulk_ne ((wr i c).map (·.data.toList))
    have h2 := joinW_len (ne ((wr i c).map (·.data.toList)))
    show (joinW (ne ((wr i c).map (·.data.toList)))).toArray.size ≤ 126
    simp only [List.size_toArray]
    omega
  · unfold WB
    show find ((words (joinW (ne ((wr i c).map (·.data.toList))))).map w2b) = _
    rw [words_join _ hg]
    exact find_wr hc i hi
def jn (s w : ByteArray) : ByteArray := w2b (joinW (ne [s.data.toList, w.data.toList]))
theorem jn_size (s w : ByteArray) : (jn s w).size ≤ s.size + w.size + 2 := by
  have h1 := bulk_ne [s.data.toList, w.data.toList]
  have h2 := joinW_len (ne [s.data.toList, w.data.toList])
  show (joinW (ne [s.data.toList, w.data.toList])).toArray.size ≤ _
  simp only [List.size_toArray]
  have h3 : bulk [s.data.toList, w.data.toList] = s.data.toList.length + 1 + (w.data.toList.length + 1 + 0) := rfl
  rw [h3] at h1
  rw [bl_size, bl_size] at h1
  omega
theorem join2 (s w : ByteArray) (hs : s.size ≤ 1000000) (hw : w.size ≤ 1000000) {α : Type} (k : ByteArray → Option α) : ref21_Join_L0 false 2 (rowOf 1 [.val (.string s), .val (.string w)]) k = k (jn s w) := by
  have hL : TL 2 (rowOf 1 [.val (.string s), .val (.string w)]) [s.data.toList, w.data.toList] := ⟨rfl, fun j h => by
    match j, h with
    | 0, _ => rfl
    | 1, _ => rfl
    | j + 2, h => simp at h; omega⟩
  refine (joinR (b := false) hL (by simp) ?_ k).trans rfl
  unfold bulk bulk bulk
  rw [bl_size, bl_size]
  omega
def rwr (m : Int) : List ByteArray → List Int → List ByteArray
  | a :: S, ns => bif a.data.toList == [35] then itoaS (ns.headD 0) :: rwr m S ns.tail else bif a.data.toList == [64] then macT m :: rwr m S ns else a :: rwr m S ns
  | [], _ => []
def jns (s : ByteArray) (L : List ByteArray) : ByteArray := L.foldl jn s
theorem jns_eq : ∀ (L : List ByteArray) (s : ByteArray) (A : List (List UInt8)), s.data.toList = joinW (ne A) → Good' (ne A) → (jns s L).data.toList = joinW (ne (A ++ L.map (·.data.toList)))
  | [], s, A, h, hg => by rw [List.map_nil, List.append_nil]; exact h
  | w :: L, s, A, h, hg => by
    have hA : ne (A ++ [w.data.toList]) = ne A ++ ne [w.data.toList] := ne_append _ _
    have e : (jn s w).data.toList = joinW (ne (A ++ [w.data.toList])) := by
      show joinW (ne [s.data.toList, w.data.toList]) = _
      rw [hA, h, ne_cons]
      cases hne : (joinW (ne A)).isEmpty with
      | true =>
        have : ne A = [] := by
          have := joinW_empty hg
          rw [hne] at this
          exact List.isEmpty_iff.1 this.symm
        rw [this]; rfl
      | false =>
        have hnn : ne A ≠ [] := fun e => by rw [e] at hne; exact absurd hne (by decide)
        rw [cond_false]
        cases hw : w.data.toList with
        | nil => show joinW [joinW (ne A)] = joinW (ne A ++ []); rw [joinW_one, List.append_nil]
        | cons x l =>
          show joinW [joinW (ne A), x :: l] = joinW (ne A ++ [x :: l])
          rw [joinW_two, joinW_one, joinW_snoc _ _ hnn]
    have hg' : Good' (ne (A ++ [w.data.toList])) := fun x hx => by
      have := (List.mem_filter.1 hx).2
      intro e; rw [e] at this; exact absurd this (by decide)
    have := jns_eq L (jn s w) (A ++ [w.data.toList]) e hg'
    rw [List.append_assoc] at this
    exact this
theorem sh_fit (i : Nat) (hi : i < 16) : ∀ a ∈ Sh i, a.size ≤ 20 := by
  have h : (List.range 16).all (fun i => (Sh i).all (fun a => Nat.ble a.size 20)) = true := by kernel_rfl
  intro a ha
  exact Nat.le_of_ble_eq_true (List.all_eq_true.1 (List.all_eq_true.1 h i (List.mem_range.2 hi)) a ha)
theorem sh_len (i : Nat) (hi : i < 16) : lenOf (e38 i 0) ≤ 6 := by
  have h : (List.range 16).all (fun i => Nat.ble (lenOf (e38 i 0)) 6) = true := by kernel_rfl
  exact Nat.le_of_ble_eq_true (List.all_eq_true.1 h i (List.mem_range.2 hi))
theorem e67_eq (s : ByteArray) (i j : Nat) : e65 s e38 (i : Int) (j : Int) = rowOf 1 [.val (.string s), .val (.string (textOf ((fnOf (e38 i 0)) j 0)))] := by
  unfold e65; rw [Int.toNat_natCast, Int.toNat_natCast]
theorem refw_1 {i : Nat} (hi : i < 16) {c : C8} (ha : 0 ≤ c.mac) (y1 y2 y3 y4 y5 y6 : Int) {row : Nat → Nat → PV} (ns : List Int) (hr : NB 1 row ns) (ho : ∀ x ∈ ns, okI x = true) (α : Type) (k0 : Int → ByteArray → Int → Int → Int → Int → Int → Int → Int → Int → (Nat → Nat → PV) → Option α) : ∀ (d j t fuel : Nat) (s : ByteArray), j + d = lenOf (e38 i 0) → t + cnt ((Sh i).drop j) ≤ 1 → d < fuel → s.size + 100 * d ≤ 100000 →
    ref22_Text_L3_v1_l0 k0 fuel (i : Int) s (t : Int) (j : Int) c.what c.kind c.port c.num c.vlan c.memb c.tagd c.mac e38 row y1 y2 y3 y4 y5 y6 c.mac = k0 (i : Int) (jns s (rwr c.mac ((Sh i).drop j) (ns.drop t))) c.what c.kind c.port c.num c.vlan c.memb c.tagd c.mac e38 := by
  intro d
  induction d with
  | zero =>
    intro j t fuel s hj ht hf hs
    obtain ⟨fuel, rfl⟩ : ∃ m, fuel = m + 1 := ⟨fuel - 1, by omega⟩
    obtain rfl : j = lenOf (e38 i 0) := by omega
    rw [List.drop_eq_nil_of_le (by unfold Sh; simp [Ve.rowL])]
    show ref22_Text_L3_v1_s0 _ _ _ _ k0 (i : Int) s (t : Int) (((lenOf (e38 i 0) : Nat)) : Int) c.what c.kind c.port c.num c.vlan c.memb c.tagd c.mac e38 row y1 y2 y3 y4 y5 y6 c.mac = _
    unfold ref22_Text_L3_v1_s0
    rw [inb_t (show (0 : Int) ≤ (i : Int) by omega) (show (i : Int) < ((16 : Nat) : Int) by omega), cond_true, Int.toNat_natCast, dec_f (Int.lt_irrefl _), cond_false]
    rfl
  | succ d ih =>
    intro j t fuel s hj ht hf hs
    obtain ⟨fuel, rfl⟩ : ∃ m, fuel = m + 1 := ⟨fuel - 1, by omega⟩
    have hS : TB (lenOf (e38 i 0)) (fnOf (e38 i 0)) (Sh i) := TB.row _ _
    have j1 : j < (Sh i).length := by rw [hS.1]; omega
    have hz := sh_fit i hi _ (List.getElem_mem j1)
    have hd : (Sh i).drop j = (Sh i)[j] :: (Sh i).drop (j + 1) := List.drop_eq_getElem_cons j1
    have fm := (macT_fit ha).1
    rw [hd] at ht ⊢
    unfold cnt at ht
    show ref22_Text_L3_v1_s0 _ _ _ _ k0 (i : Int) s (t : Int) (j : Int) c.what c.kind c.port c.num c.vlan c.memb c.tagd c.mac e38 row y1 y2 y3 y4 y5 y6 c.mac = _
    unfold ref22_Text_L3_v1_s0
    rw [inb_t (show (0 : Int) ≤ (i : Int) by omega) (show (i : Int) < ((16 : Nat) : Int) by omega), cond_true, Int.toNat_natCast, dec_t (show (j : Int) < ((lenOf (e38 i 0) : Nat) : Int) by omega), cond_true, cond_true, inb_t (show (0 : Int) ≤ (j : Int) by omega) (show (j : Int) < ((lenOf (e38 i 0) : Nat) : Int) by omega), cond_true, Int.toNat_natCast, e67_eq, hS.2 j j1, beq_bl, beq_bl, i64_id (show (-9223372036854775808 : Int) ≤ (j : Int) + 1 by omega) (by have := sh_len i hi; omega)]
    unfold rwr
    show (bif (Sh i)[j].data.toList == [35] then _ else bif (Sh i)[j].data.toList == [64] then _ else _) = _
    cases h35 : (Sh i)[j].data.toList == [35] with
    | true =>
      rw [h35, cond_true] at ht
      rw [cond_true, cond_true]
      have tl : t < ns.length := by rw [hr.1]; omega
      have hx := ho _ (List.getElem_mem tl)
      rw [inb_t (show (0 : Int) ≤ (t : Int) by omega) (show (t : Int) < ((1 : Nat) : Int) by omega), cond_true, Int.toNat_natCast, hr.2 t tl, text_eq hx]
      have fi := (itoa_fit hx).1
      refine (join2 s _ (by omega) (by omega) _).trans ?_
      have := jn_size s (itoaS ns[t])
      rw [i64_id (show (-9223372036854775808 : Int) ≤ (t : Int) + 1 by omega) (by omega), List.drop_eq_getElem_cons tl]
      exact ih (j + 1) (t + 1) fuel (jn s (itoaS ns[t])) (by omega) (by omega) (by omega) (by omega)
    | false =>
      rw [h35, cond_false] at ht
      rw [cond_false, cond_false]
      cases (Sh i)[j].data.toList == [64] with
      | true =>
        rw [cond_true, cond_true, (macT_ok c.mac ha).2]
        refine (join2 s _ (by omega) (by omega) _).trans ?_
        have := jn_size s (macT c.mac)
        exact ih (j + 1) t fuel (jn s (macT c.mac)) (by omega) (by omega) (by omega) (by omega)
      | false =>
        rw [cond_false, cond_false]
        refine (join2 s _ (by omega) (by omega) _).trans ?_
        have := jn_size s (Sh i)[j]
        exact ih (j + 1) t fuel (jn s (Sh i)[j]) (by omega) (by omega) (by omega) (by omega)
theorem refw_2 {i : Nat} (hi : i < 16) {c : C8} (ha : 0 ≤ c.mac) (y1 y2 y3 y4 y5 y6 : Int) {row : Nat → Nat → PV} (ns : List Int) (hr : NB 2 row ns) (ho : ∀ x ∈ ns, okI x = true) (α : Type) (k0 : Int → ByteArray → Int → Int → Int → Int → Int → Int → Int → Int → (Nat → Nat → PV) → Option α) : ∀ (d j t fuel : Nat) (s : ByteArray), j + d = lenOf (e38 i 0) → t + cnt ((Sh i).drop j) ≤ 2 → d < fuel → s.size + 100 * d ≤ 100000 →
    ref22_Text_L3_v2_l0 k0 fuel (i : Int) s (t : Int) (j : Int) c.what c.kind c.port c.num c.vlan c.memb c.tagd c.mac e38 row y1 y2 y3 y4 y5 y6 c.mac = k0 (i : Int) (jns s (rwr c.mac ((Sh i).drop j) (ns.drop t))) c.what c.kind c.port c.num c.vlan c.memb c.tagd c.mac e38 := by
  intro d
  induction d with
  | zero =>
    intro j t fuel s hj ht hf hs
    obtain ⟨fuel, rfl⟩ : ∃ m, fuel = m + 1 := ⟨fuel - 1, by omega⟩
    obtain rfl : j = lenOf (e38 i 0) := by omega
    rw [List.drop_eq_nil_of_le (by unfold Sh; simp [Ve.rowL])]
    show ref22_Text_L3_v2_s0 _ _ _ _ k0 (i : Int) s (t : Int) (((lenOf (e38 i 0) : Nat)) : Int) c.what c.kind c.port c.num c.vlan c.memb c.tagd c.mac e38 row y1 y2 y3 y4 y5 y6 c.mac = _
    unfold ref22_Text_L3_v2_s0
    rw [inb_t (show (0 : Int) ≤ (i : Int) by omega) (show (i : Int) < ((16 : Nat) : Int) by omega), cond_true, Int.toNat_natCast, dec_f (Int.lt_irrefl _), cond_false]
    rfl
  | succ d ih =>
    intro j t fuel s hj ht hf hs
    obtain ⟨fuel, rfl⟩ : ∃ m, fuel = m + 1 := ⟨fuel - 1, by omega⟩
    have hS : TB (lenOf (e38 i 0)) (fnOf (e38 i 0)) (Sh i) := TB.row _ _
    have j1 : j < (Sh i).length := by rw [hS.1]; omega
    have hz := sh_fit i hi _ (List.getElem_mem j1)
    have hd : (Sh i).drop j = (Sh i)[j] :: (Sh i).drop (j + 1) := List.drop_eq_getElem_cons j1
    have fm := (macT_fit ha).1
    rw [hd] at ht ⊢
    unfold cnt at ht
    show ref22_Text_L3_v2_s0 _ _ _ _ k0 (i : Int) s (t : Int) (j : Int) c.what c.kind c.port c.num c.vlan c.memb c.tagd c.mac e38 row y1 y2 y3 y4 y5 y6 c.mac = _
    unfold ref22_Text_L3_v2_s0
    rw [inb_t (show (0 : Int) ≤ (i : Int) by omega) (show (i : Int) < ((16 : Nat) : Int) by omega), cond_true, Int.toNat_natCast, dec_t (show (j : Int) < ((lenOf (e38 i 0) : Nat) : Int) by omega), cond_true, cond_true, inb_t (show (0 : Int) ≤ (j : Int) by omega) (show (j : Int) < ((lenOf (e38 i 0) : Nat) : Int) by omega), cond_true, Int.toNat_natCast, e67_eq, hS.2 j j1, beq_bl, beq_bl, i64_id (show (-9223372036854775808 : Int) ≤ (j : Int) + 1 by omega) (by have := sh_len i hi; omega)]
    unfold rwr
    show (bif (Sh i)[j].data.toList == [35] then _ else bif (Sh i)[j].data.toList == [64] then _ else _) = _
    cases h35 : (Sh i)[j].data.toList == [35] with
    | true =>
      rw [h35, cond_true] at ht
      rw [cond_true, cond_true]
      have tl : t < ns.length := by rw [hr.1]; omega
      have hx := ho _ (List.getElem_mem tl)
      rw [inb_t (show (0 : Int) ≤ (t : Int) by omega) (show (t : Int) < ((2 : Nat) : Int) by omega), cond_true, Int.toNat_natCast, hr.2 t tl, text_eq hx]
      have fi := (itoa_fit hx).1
      refine (join2 s _ (by omega) (by omega) _).trans ?_
      have := jn_size s (itoaS ns[t])
      rw [i64_id (show (-9223372036854775808 : Int) ≤ (t : Int) + 1 by omega) (by omega), List.drop_eq_getElem_cons tl]
      exact ih (j + 1) (t + 1) fuel (jn s (itoaS ns[t])) (by omega) (by omega) (by omega) (by omega)
    | false =>
      rw [h35, cond_false] at ht
      rw [cond_false, cond_false]
      cases (Sh i)[j].data.toList == [64] with
      | true =>
        rw [cond_true, cond_true, (macT_ok c.mac ha).2]
        refine (join2 s _ (by omega) (by omega) _).trans ?_
        have := jn_size s (macT c.mac)
        exact ih (j + 1) t fuel (jn s (macT c.mac)) (by omega) (by omega) (by omega) (by omega)
      | false =>
        rw [cond_false, cond_false]
        refine (join2 s _ (by omega) (by omega) _).trans ?_
        have := jn_size s (Sh i)[j]
        exact ih (j + 1) t fuel (jn s (Sh i)[j]) (by omega) (by omega) (by omega) (by omega)
theorem refw_3 {i : Nat} (hi : i < 16) {c : C8} (ha : 0 ≤ c.mac) (y1 y2 y3 y4 y5 y6 : Int) {row : Nat → Nat → PV} (ns : List Int) (hr : NB 3 row ns) (ho : ∀ x ∈ ns, okI x = true) (α : Type) (k0 : Int → ByteArray → Int → Int → Int → Int → Int → Int → Int → Int → (Nat → Nat → PV) → Option α) : ∀ (d j t fuel : Nat) (s : ByteArray), j + d = lenOf (e38 i 0) → t + cnt ((Sh i).drop j) ≤ 3 → d < fuel → s.size + 100 * d ≤ 100000 →
    ref22_Text_L3_v3_l0 k0 fuel (i : Int) s (t : Int) (j : Int) c.what c.kind c.port c.num c.vlan c.memb c.tagd c.mac e38 row y1 y2 y3 y4 y5 y6 c.mac = k0 (i : Int) (jns s (rwr c.mac ((Sh i).drop j) (ns.drop t))) c.what c.kind c.port c.num c.vlan c.memb c.tagd c.mac e38 := by
  intro d
  induction d with
  | zero =>
    intro j t fuel s hj ht hf hs
    obtain ⟨fuel, rfl⟩ : ∃ m, fuel = m + 1 := ⟨fuel - 1, by omega⟩
    obtain rfl : j = lenOf (e38 i 0) := by omega
    rw [List.drop_eq_nil_of_le (by unfold Sh; simp [Ve.rowL])]
    show ref22_Text_L3_v3_s0 _ _ _ _ k0 (i : Int) s (t : Int) (((lenOf (e38 i 0) : Nat)) : Int) c.what c.kind c.port c.num c.vlan c.memb c.tagd c.mac e38 row y1 y2 y3 y4 y5 y6 c.mac = _
    unfold ref22_Text_L3_v3_s0
    rw [inb_t (show (0 : Int) ≤ (i : Int) by omega) (show (i : Int) < ((16 : Nat) : Int) by omega), cond_true, Int.toNat_natCast, dec_f (Int.lt_irrefl _), cond_false]
    rfl
  | succ d ih =>
    intro j t fuel s hj ht hf hs
    obtain ⟨fuel, rfl⟩ : ∃ m, fuel = m + 1 := ⟨fuel - 1, by omega⟩
    have hS : TB (lenOf (e38 i 0)) (fnOf (e38 i 0)) (Sh i) := TB.row _ _
    have j1 : j < (Sh i).length := by rw [hS.1]; omega
    have hz := sh_fit i hi _ (List.getElem_mem j1)
    have hd : (Sh i).drop j = (Sh i)[j] :: (Sh i).drop (j + 1) := List.drop_eq_getElem_cons j1
    have fm := (macT_fit ha).1
    rw [hd] at ht ⊢
    unfold cnt at ht
    show ref22_Text_L3_v3_s0 _ _ _ _ k0 (i : Int) s (t : Int) (j : Int) c.what c.kind c.port c.num c.vlan c.memb c.tagd c.mac e38 row y1 y2 y3 y4 y5 y6 c.mac = _
    unfold ref22_Text_L3_v3_s0
    rw [inb_t (show (0 : Int) ≤ (i : Int) by omega) (show (i : Int) < ((16 : Nat) : Int) by omega), cond_true, Int.toNat_natCast, dec_t (show (j : Int) < ((lenOf (e38 i 0) : Nat) : Int) by omega), cond_true, cond_true, inb_t (show (0 : Int) ≤ (j : Int) by omega) (show (j : Int) < ((lenOf (e38 i 0) : Nat) : Int) by omega), cond_true, Int.toNat_natCast, e67_eq, hS.2 j j1, beq_bl, beq_bl, i64_id (show (-9223372036854775808 : Int) ≤ (j : Int) + 1 by omega) (by have := sh_len i hi; omega)]
    unfold rwr
    show (bif (Sh i)[j].data.toList == [35] then _ else bif (Sh i)[j].data.toList == [64] then _ else _) = _
    cases h35 : (Sh i)[j].data.toList == [35] with
    | true =>
      rw [h35, cond_true] at ht
      rw [cond_true, cond_true]
      have tl : t < ns.length := by rw [hr.1]; omega
      have hx := ho _ (List.getElem_mem tl)
      rw [inb_t (show (0 : Int) ≤ (t : Int) by omega) (show (t : Int) < ((3 : Nat) : Int) by omega), cond_true, Int.toNat_natCast, hr.2 t tl, text_eq hx]
      have fi := (itoa_fit hx).1
      refine (join2 s _ (by omega) (by omega) _).trans ?_
      have := jn_size s (itoaS ns[t])
      rw [i64_id (show (-9223372036854775808 : Int) ≤ (t : Int) + 1 by omega) (by omega), List.drop_eq_getElem_cons tl]
      exact ih (j + 1) (t + 1) fuel (jn s (itoaS ns[t])) (by omega) (by omega) (by omega) (by omega)
    | false =>
      rw [h35, cond_false] at ht
      rw [cond_false, cond_false]
      cases (Sh i)[j].data.toList == [64] with
      | true =>
        rw [cond_true, cond_true, (macT_ok c.mac ha).2]
        refine (join2 s _ (by omega) (by omega) _).trans ?_
        have := jn_size s (macT c.mac)
        exact ih (j + 1) t fuel (jn s (macT c.mac)) (by omega) (by omega) (by omega) (by omega)
      | false =>
        rw [cond_false, cond_false]
        refine (join2 s _ (by omega) (by omega) _).trans ?_
        have := jn_size s (Sh i)[j]
        exact ih (j + 1) t fuel (jn s (Sh i)[j]) (by omega) (by omega) (by omega) (by omega)
theorem refw_4 {i : Nat} (hi : i < 16) {c : C8} (ha : 0 ≤ c.mac) (y1 y2 y3 y4 y5 y6 : Int) (ns : List Int) (hr : ns = []) (ho : ∀ x ∈ ns, okI x = true) (α : Type) (k0 : Int → ByteArray → Int → Int → Int → Int → Int → Int → Int → Int → (Nat → Nat → PV) → Option α) : ∀ (d j t fuel : Nat) (s : ByteArray), j + d = lenOf (e38 i 0) → t + cnt ((Sh i).drop j) ≤ 0 → d < fuel → s.size + 100 * d ≤ 100000 →
    ref22_Text_L3_v4_l0 k0 fuel (i : Int) s (j : Int) c.what c.kind c.port c.num c.vlan c.memb c.tagd c.mac e38 y1 y2 y3 y4 y5 y6 c.mac = k0 (i : Int) (jns s (rwr c.mac ((Sh i).drop j) (ns.drop t))) c.what c.kind c.port c.num c.vlan c.memb c.tagd c.mac e38 := by
  intro d
  induction d with
  | zero =>
    intro j t fuel s hj ht hf hs
    obtain ⟨fuel, rfl⟩ : ∃ m, fuel = m + 1 := ⟨fuel - 1, by omega⟩
    obtain rfl : j = lenOf (e38 i 0) := by omega
    rw [List.drop_eq_nil_of_le (by unfold Sh; simp [Ve.rowL])]
    show ref22_Text_L3_v4_s0 _ _ _ k0 (i : Int) s (((lenOf (e38 i 0) : Nat)) : Int) c.what c.kind c.port c.num c.vlan c.memb c.tagd c.mac e38 y1 y2 y3 y4 y5 y6 c.mac = _
    unfold ref22_Text_L3_v4_s0
    rw [inb_t (show (0 : Int) ≤ (i : Int) by omega) (show (i : Int) < ((16 : Nat) : Int) by omega), cond_true, Int.toNat_natCast, dec_f (Int.lt_irrefl _), cond_false]
    rfl
  | succ d ih =>
    intro j t fuel s hj ht hf hs
    obtain ⟨fuel, rfl⟩ : ∃ m, fuel = m + 1 := ⟨fuel - 1, by omega⟩
    have hS : TB (lenOf (e38 i 0)) (fnOf (e38 i 0)) (Sh i) := TB.row _ _
    have j1 : j < (Sh i).length := by rw [hS.1]; omega
    have hz := sh_fit i hi _ (List.getElem_mem j1)
    have hd : (Sh i).drop j = (Sh i)[j] :: (Sh i).drop (j + 1) := List.drop_eq_getElem_cons j1
    have fm := (macT_fit ha).1
    rw [hd] at ht ⊢
    unfold cnt at ht
    show ref22_Text_L3_v4_s0 _ _ _ k0 (i : Int) s (j : Int) c.what c.kind c.port c.num c.vlan c.memb c.tagd c.mac e38 y1 y2 y3 y4 y5 y6 c.mac = _
    unfold ref22_Text_L3_v4_s0
    rw [inb_t (show (0 : Int) ≤ (i : Int) by omega) (show (i : Int) < ((16 : Nat) : Int) by omega), cond_true, Int.toNat_natCast, dec_t (show (j : Int) < ((lenOf (e38 i 0) : Nat) : Int) by omega), cond_true, cond_true, inb_t (show (0 : Int) ≤ (j : Int) by omega) (show (j : Int) < ((lenOf (e38 i 0) : Nat) : Int) by omega), cond_true, Int.toNat_natCast, e67_eq, hS.2 j j1, beq_bl, beq_bl, i64_id (show (-9223372036854775808 : Int) ≤ (j : Int) + 1 by omega) (by have := sh_len i hi; omega)]
    unfold rwr
    show (bif (Sh i)[j].data.toList == [35] then _ else bif (Sh i)[j].data.toList == [64] then _ else _) = _
    cases h35 : (Sh i)[j].data.toList == [35] with
    | true =>
      rw [h35, cond_true] at ht
      rw [cond_true, cond_true]
      omega
    | false =>
      rw [h35, cond_false] at ht
      rw [cond_false, cond_false]
      cases (Sh i)[j].data.toList == [64] with
      | true =>
        rw [cond_true, cond_true, (macT_ok c.mac ha).2]
        refine (join2 s _ (by omega) (by omega) _).trans ?_
        have := jn_size s (macT c.mac)
        exact ih (j + 1) t fuel (jn s (macT c.mac)) (by omega) (by omega) (by omega) (by omega)
      | false =>
        rw [cond_false, cond_false]
        refine (join2 s _ (by omega) (by omega) _).trans ?_
        have := jn_size s (Sh i)[j]
        exact ih (j + 1) t fuel (jn s (Sh i)[j]) (by omega) (by omega) (by omega) (by omega)
def KK {α : Type} (GL : ByteArray → Option α → (Int → Int → Int → Int → Int → Int → Int → Int → Option α) → Option α → Option α) (rec0 : Int → Int → Int → Int → Int → Int → Int → Int → Int → (Nat → Nat → PV) → Option α) (k0 : ByteArray → Option α) : Int → ByteArray → Int → Int → Int → Int → Int → Int → Int → Int → (Nat → Nat → PV) → Option α := fun r_11 r_12 r_13 r_14 r_15 r_16 r_17 r_18 r_19 r_20 r_21 => GL r_12 (rec0 (IntKind.i64.wrap (r_11 + 1)) r_13 r_14 r_15 r_16 r_17 r_18 r_19 r_20 r_21) (fun r_22 r_23 r_24 r_25 r_26 r_27 r_28 r_29 => bif e23 r_22 r_13 r_23 r_14 r_24 r_15 r_25 r_16 r_26 r_17 r_27 r_18 r_28 r_19 r_29 r_20 then k0 r_12 else rec0 (IntKind.i64.wrap (r_11 + 1)) r_13 r_14 r_15 r_16 r_17 r_18 r_19 r_20 r_21) (rec0 (IntKind.i64.wrap (r_11 + 1)) r_13 r_14 r_15 r_16 r_17 r_18 r_19 r_20 r_21)
theorem KK_eq {α : Type} (GL : ByteArray → Option α → (Int → Int → Int → Int → Int → Int → Int → Int → Option α) → Option α → Option α) (rec0 : Int → Int → Int → Int → Int → Int → Int → Int → Int → (Nat → Nat → PV) → Option α) (k0 : ByteArray → Option α) (i : Int) (t : ByteArray) (c : C8) (r : Nat → Nat → PV) : KK GL rec0 k0 i t c.what c.kind c.port c.num c.vlan c.memb c.tagd c.mac r = GL t (rec0 (IntKind.i64.wrap (i + 1)) c.what c.kind c.port c.num c.vlan c.memb c.tagd c.mac r) (fun r_22 r_23 r_24 r_25 r_26 r_27 r_28 r_29 => bif same8 ⟨r_22, r_23, r_24, r_25, r_26, r_27, r_28, r_29⟩ c then k0 t else rec0 (IntKind.i64.wrap (i + 1)) c.what c.kind c.port c.num c.vlan c.memb c.tagd c.mac r) (rec0 (IntKind.i64.wrap (i + 1)) c.what c.kind c.port c.num c.vlan c.memb c.tagd c.mac r) := rfl
theorem refe_0 (α : Type) (G1 G2 G3 : Int → Int → Int → Int → Int → Int → Int → Int → Int → (Nat → Nat → PV) → (Nat → Nat → PV) → Int → Int → Int → Int → Int → Int → Int → (Int → ByteArray → Int → Int → Int → Int → Int → Int → Int → Int → (Nat → Nat → PV) → Option α) → Option α) (G4 : Int → Int → Int → Int → Int → Int → Int → Int → Int → (Nat → Nat → PV) → Int → Int → Int → Int → Int → Int → Int → (Int → ByteArray → Int → Int → Int → Int → Int → Int → Int → Int → (Nat → Nat → PV) → Option α) → Option α) (GL : ByteArray → Option α → (Int → Int → Int → Int → Int → Int → Int → Int → Option α) → Option α → Option α) (rec0 : Int → Int → Int → Int → Int → Int → Int → Int → Int → (Nat → Nat → PV) → Option α) (k0 : ByteArray → Option α) (k1 : Option α) (c : C8) : ref22_Text_L0_s0 G1 GL G2 G3 G4 rec0 k0 k1 ((0 : Nat) : Int) c.what c.kind c.port c.num c.vlan c.memb c.tagd c.mac e38 = G1 ((0 : Nat) : Int) c.what c.kind c.port c.num c.vlan c.memb c.tagd c.mac e38 (rowOf 1 [.val (.int .i64 c.num)]) c.kind c.port c.num c.vlan c.memb c.tagd c.mac (KK GL rec0 k0) := by kernel_rfl
theorem refs_0 {c : C8} (hc : CB c) (α : Type) (k0 : ByteArray → Option α) (k1 : Option α) (fuel : Nat) : ref22_Text_L0_l0 k0 k1 (fuel + 1) ((0 : Nat) : Int) c.what c.kind c.port c.num c.vlan c.memb c.tagd c.mac e38 = (KK ref22_Line (ref22_Text_L0_l0 k0 k1 fuel) k0) ((0 : Nat) : Int) (tl8 0 c) c.what c.kind c.port c.num c.vlan c.memb c.tagd c.mac e38 := by
  refine (refe_0 α ref22_Text_L3_v1 ref22_Text_L3_v2 ref22_Text_L3_v3 ref22_Text_L3_v4 ref22_Line (ref22_Text_L0_l0 k0 k1 fuel) k0 k1 c).trans ?_
  unfold ref22_Text_L3_v1
  have hr : NB 1 (rowOf 1 [.val (.int .i64 c.num)]) [c.num] := ⟨rfl, fun j h => by
    match j, h with
    | 0, _ => rfl
    | j + 1, h => exact absurd h (by simp)⟩
  have ho : ∀ x ∈ ([c.num] : List Int), okI x = true := fun x hx => by
    simp only [List.mem_cons, List.not_mem_nil, or_false] at hx
    subst hx; exact hc.n
  have hl : lenOf (e38 0 0) = 2 := by kernel_rfl
  refine (refw_1 (i := 0) (by omega) hc.a0 c.kind c.port c.num c.vlan c.memb c.tagd [c.num] hr ho α _ 2 0 0 18446744073709551616 ⟨#[]⟩ (by rw [hl]) (by rw [List.drop_zero, show cnt (Sh 0) = 1 by kernel_rfl]; exact Nat.le_refl _) (by omega) (by show (0 : Nat) + _ ≤ _; omega)).trans ?_
  have hw : rwr c.mac ((Sh 0).drop 0) (([c.num] : List Int).drop 0) = wr 0 c := by kernel_rfl
  rw [hw, show jns ⟨#[]⟩ (wr 0 c) = tl8 0 c from bl_inj (jns_eq (wr 0 c) ⟨#[]⟩ [] rfl (fun x hx => by cases hx))]
theorem refe_1 (α : Type) (G1 G2 G3 : Int → Int → Int → Int → Int → Int → Int → Int → Int → (Nat → Nat → PV) → (Nat → Nat → PV) → Int → Int → Int → Int → Int → Int → Int → (Int → ByteArray → Int → Int → Int → Int → Int → Int → Int → Int → (Nat → Nat → PV) → Option α) → Option α) (G4 : Int → Int → Int → Int → Int → Int → Int → Int → Int → (Nat → Nat → PV) → Int → Int → Int → Int → Int → Int → Int → (Int → ByteArray → Int → Int → Int → Int → Int → Int → Int → Int → (Nat → Nat → PV) → Option α) → Option α) (GL : ByteArray → Option α → (Int → Int → Int → Int → Int → Int → Int → Int → Option α) → Option α → Option α) (rec0 : Int → Int → Int → Int → Int → Int → Int → Int → Int → (Nat → Nat → PV) → Option α) (k0 : ByteArray → Option α) (k1 : Option α) (c : C8) : ref22_Text_L0_s0 G1 GL G2 G3 G4 rec0 k0 k1 ((1 : Nat) : Int) c.what c.kind c.port c.num c.vlan c.memb c.tagd c.mac e38 = G1 ((1 : Nat) : Int) c.what c.kind c.port c.num c.vlan c.memb c.tagd c.mac e38 (rowOf 1 [.val (.int .i64 c.num)]) c.kind c.port c.num c.vlan c.memb c.tagd c.mac (KK GL rec0 k0) := by kernel_rfl
theorem refs_1 {c : C8} (hc : CB c) (α : Type) (k0 : ByteArray → Option α) (k1 : Option α) (fuel : Nat) : ref22_Text_L0_l0 k0 k1 (fuel + 1) ((1 : Nat) : Int) c.what c.kind c.port c.num c.vlan c.memb c.tagd c.mac e38 = (KK ref22_Line (ref22_Text_L0_l0 k0 k1 fuel) k0) ((1 : Nat) : Int) (tl8 1 c) c.what c.kind c.port c.num c.vlan c.memb c.tagd c.mac e38 := by
  refine (refe_1 α ref22_Text_L3_v1 ref22_Text_L3_v2 ref22_Text_L3_v3 ref22_Text_L3_v4 ref22_Line (ref22_Text_L0_l0 k0 k1 fuel) k0 k1 c).trans ?_
  unfold ref22_Text_L3_v1
  have hr : NB 1 (rowOf 1 [.val (.int .i64 c.num)]) [c.num] := ⟨rfl, fun j h => by
    match j, h with
    | 0, _ => rfl
    | j + 1, h => exact absurd h (by simp)⟩
  have ho : ∀ x ∈ ([c.num] : List Int), okI x = true := fun x hx => by
    simp only [List.mem_cons, List.not_mem_nil, or_false] at hx
    subst hx; exact hc.n
  have hl : lenOf (e38 1 0) = 2 := by kernel_rfl
  refine (refw_1 (i := 1) (by omega) hc.a0 c.kind c.port c.num c.vlan c.memb c.tagd [c.num] hr ho α _ 2 0 0 18446744073709551616 ⟨#[]⟩ (by rw [hl]) (by rw [List.drop_zero, show cnt (Sh 1) = 1 by kernel_rfl]; exact Nat.le_refl _) (by omega) (by show (0 : Nat) + _ ≤ _; omega)).trans ?_
  have hw : rwr c.mac ((Sh 1).drop 0) (([c.num] : List Int).drop 0) = wr 1 c := by kernel_rfl
  rw [hw, show jns ⟨#[]⟩ (wr 1 c) = tl8 1 c from bl_inj (jns_eq (wr 1 c) ⟨#[]⟩ [] rfl (fun x hx => by cases hx))]
theorem refe_2 (α : Type) (G1 G2 G3 : Int → Int → Int → Int → Int → Int → Int → Int → Int → (Nat → Nat → PV) → (Nat → Nat → PV) → Int → Int → Int → Int → Int → Int → Int → (Int → ByteArray → Int → Int → Int → Int → Int → Int → Int → Int → (Nat → Nat → PV) → Option α) → Option α) (G4 : Int → Int → Int → Int → Int → Int → Int → Int → Int → (Nat → Nat → PV) → Int → Int → Int → Int → Int → Int → Int → (Int → ByteArray → Int → Int → Int → Int → Int → Int → Int → Int → (Nat → Nat → PV) → Option α) → Option α) (GL : ByteArray → Option α → (Int → Int → Int → Int → Int → Int → Int → Int → Option α) → Option α → Option α) (rec0 : Int → Int → Int → Int → Int → Int → Int → Int → Int → (Nat → Nat → PV) → Option α) (k0 : ByteArray → Option α) (k1 : Option α) (c : C8) : ref22_Text_L0_s0 G1 GL G2 G3 G4 rec0 k0 k1 ((2 : Nat) : Int) c.what c.kind c.port c.num c.vlan c.memb c.tagd c.mac e38 = G1 ((2 : Nat) : Int) c.what c.kind c.port c.num c.vlan c.memb c.tagd c.mac e38 (rowOf 1 [.val (.int .i64 c.num)]) c.kind c.port c.num c.vlan c.memb c.tagd c.mac (KK GL rec0 k0) := by kernel_rfl
theorem refs_2 {c : C8} (hc : CB c) (α : Type) (k0 : ByteArray → Option α) (k1 : Option α) (fuel : Nat) : ref22_Text_L0_l0 k0 k1 (fuel + 1) ((2 : Nat) : Int) c.what c.kind c.port c.num c.vlan c.memb c.tagd c.mac e38 = (KK ref22_Line (ref22_Text_L0_l0 k0 k1 fuel) k0) ((2 : Nat) : Int) (tl8 2 c) c.what c.kind c.port c.num c.vlan c.memb c.tagd c.mac e38 := by
  refine (refe_2 α ref22_Text_L3_v1 ref22_Text_L3_v2 ref22_Text_L3_v3 ref22_Text_L3_v4 ref22_Line (ref22_Text_L0_l0 k0 k1 fuel) k0 k1 c).trans ?_
  unfold ref22_Text_L3_v1
  have hr : NB 1 (rowOf 1 [.val (.int .i64 c.num)]) [c.num] := ⟨rfl, fun j h => by
    match j, h with
    | 0, _ => rfl
    | j + 1, h => exact absurd h (by simp)⟩
  have ho : ∀ x ∈ ([c.num] : List Int), okI x = true := fun x hx => by
    simp only [List.mem_cons, List.not_mem_nil, or_false] at hx
    subst hx; exact hc.n
  have hl : lenOf (e38 2 0) = 2 := by kernel_rfl
  refine (refw_1 (i := 2) (by omega) hc.a0 c.kind c.port c.num c.vlan c.memb c.tagd [c.num] hr ho α _ 2 0 0 18446744073709551616 ⟨#[]⟩ (by rw [hl]) (by rw [List.drop_zero, show cnt (Sh 2) = 1 by kernel_rfl]; exact Nat.le_refl _) (by omega) (by show (0 : Nat) + _ ≤ _; omega)).trans ?_
  have hw : rwr c.mac ((Sh 2).drop 0) (([c.num] : List Int).drop 0) = wr 2 c := by kernel_rfl
  rw [hw, show jns ⟨#[]⟩ (wr 2 c) = tl8 2 c from bl_inj (jns_eq (wr 2 c) ⟨#[]⟩ [] rfl (fun x hx => by cases hx))]
theorem refe_3 (α : Type) (G1 G2 G3 : Int → Int → Int → Int → Int → Int → Int → Int → Int → (Nat → Nat → PV) → (Nat → Nat → PV) → Int → Int → Int → Int → Int → Int → Int → (Int → ByteArray → Int → Int → Int → Int → Int → Int → Int → Int → (Nat → Nat → PV) → Option α) → Option α) (G4 : Int → Int → Int → Int → Int → Int → Int → Int → Int → (Nat → Nat → PV) → Int → Int → Int → Int → Int → Int → Int → (Int → ByteArray → Int → Int → Int → Int → Int → Int → Int → Int → (Nat → Nat → PV) → Option α) → Option α) (GL : ByteArray → Option α → (Int → Int → Int → Int → Int → Int → Int → Int → Option α) → Option α → Option α) (rec0 : Int → Int → Int → Int → Int → Int → Int → Int → Int → (Nat → Nat → PV) → Option α) (k0 : ByteArray → Option α) (k1 : Option α) (c : C8) : ref22_Text_L0_s0 G1 GL G2 G3 G4 rec0 k0 k1 ((3 : Nat) : Int) c.what c.kind c.port c.num c.vlan c.memb c.tagd c.mac e38 = G1 ((3 : Nat) : Int) c.what c.kind c.port c.num c.vlan c.memb c.tagd c.mac e38 (rowOf 1 [.val (.int .i64 c.port)]) c.kind c.port c.num c.vlan c.memb c.tagd c.mac (KK GL rec0 k0) := by kernel_rfl
theorem refs_3 {c : C8} (hc : CB c) (α : Type) (k0 : ByteArray → Option α) (k1 : Option α) (fuel : Nat) : ref22_Text_L0_l0 k0 k1 (fuel + 1) ((3 : Nat) : Int) c.what c.kind c.port c.num c.vlan c.memb c.tagd c.mac e38 = (KK ref22_Line (ref22_Text_L0_l0 k0 k1 fuel) k0) ((3 : Nat) : Int) (tl8 3 c) c.what c.kind c.port c.num c.vlan c.memb c.tagd c.mac e38 := by
  refine (refe_3 α ref22_Text_L3_v1 ref22_Text_L3_v2 ref22_Text_L3_v3 ref22_Text_L3_v4 ref22_Line (ref22_Text_L0_l0 k0 k1 fuel) k0 k1 c).trans ?_
  unfold ref22_Text_L3_v1
  have hr : NB 1 (rowOf 1 [.val (.int .i64 c.port)]) [c.port] := ⟨rfl, fun j h => by
    match j, h with
    | 0, _ => rfl
    | j + 1, h => exact absurd h (by simp)⟩
  have ho : ∀ x ∈ ([c.port] : List Int), okI x = true := fun x hx => by
    simp only [List.mem_cons, List.not_mem_nil, or_false] at hx
    subst hx; exact hc.p
  have hl : lenOf (e38 3 0) = 3 := by kernel_rfl
  refine (refw_1 (i := 3) (by omega) hc.a0 c.kind c.port c.num c.vlan c.memb c.tagd [c.port] hr ho α _ 3 0 0 18446744073709551616 ⟨#[]⟩ (by rw [hl]) (by rw [List.drop_zero, show cnt (Sh 3) = 1 by kernel_rfl]; exact Nat.le_refl _) (by omega) (by show (0 : Nat) + _ ≤ _; omega)).trans ?_
  have hw : rwr c.mac ((Sh 3).drop 0) (([c.port] : List Int).drop 0) = wr 3 c := by kernel_rfl
  rw [hw, show jns ⟨#[]⟩ (wr 3 c) = tl8 3 c from bl_inj (jns_eq (wr 3 c) ⟨#[]⟩ [] rfl (fun x hx => by cases hx))]
theorem refe_4 (α : Type) (G1 G2 G3 : Int → Int → Int → Int → Int → Int → Int → Int → Int → (Nat → Nat → PV) → (Nat → Nat → PV) → Int → Int → Int → Int → Int → Int → Int → (Int → ByteArray → Int → Int → Int → Int → Int → Int → Int → Int → (Nat → Nat → PV) → Option α) → Option α) (G4 : Int → Int → Int → Int → Int → Int → Int → Int → Int → (Nat → Nat → PV) → Int → Int → Int → Int → Int → Int → Int → (Int → ByteArray → Int → Int → Int → Int → Int → Int → Int → Int → (Nat → Nat → PV) → Option α) → Option α) (GL : ByteArray → Option α → (Int → Int → Int → Int → Int → Int → Int → Int → Option α) → Option α → Option α) (rec0 : Int → Int → Int → Int → Int → Int → Int → Int → Int → (Nat → Nat → PV) → Option α) (k0 : ByteArray → Option α) (k1 : Option α) (c : C8) : ref22_Text_L0_s0 G1 GL G2 G3 G4 rec0 k0 k1 ((4 : Nat) : Int) c.what c.kind c.port c.num c.vlan c.memb c.tagd c.mac e38 = G1 ((4 : Nat) : Int) c.what c.kind c.port c.num c.vlan c.memb c.tagd c.mac e38 (rowOf 1 [.val (.int .i64 c.port)]) c.kind c.port c.num c.vlan c.memb c.tagd c.mac (KK GL rec0 k0) := by kernel_rfl
theorem refs_4 {c : C8} (hc : CB c) (α : Type) (k0 : ByteArray → Option α) (k1 : Option α) (fuel : Nat) : ref22_Text_L0_l0 k0 k1 (fuel + 1) ((4 : Nat) : Int) c.what c.kind c.port c.num c.vlan c.memb c.tagd c.mac e38 = (KK ref22_Line (ref22_Text_L0_l0 k0 k1 fuel) k0) ((4 : Nat) : Int) (tl8 4 c) c.what c.kind c.port c.num c.vlan c.memb c.tagd c.mac e38 := by
  refine (refe_4 α ref22_Text_L3_v1 ref22_Text_L3_v2 ref22_Text_L3_v3 ref22_Text_L3_v4 ref22_Line (ref22_Text_L0_l0 k0 k1 fuel) k0 k1 c).trans ?_
  unfold ref22_Text_L3_v1
  have hr : NB 1 (rowOf 1 [.val (.int .i64 c.port)]) [c.port] := ⟨rfl, fun j h => by
    match j, h with
    | 0, _ => rfl
    | j + 1, h => exact absurd h (by simp)⟩
  have ho : ∀ x ∈ ([c.port] : List Int), okI x = true := fun x hx => by
    simp only [List.mem_cons, List.not_mem_nil, or_false] at hx
    subst hx; exact hc.p
  have hl : lenOf (e38 4 0) = 3 := by kernel_rfl
  refine (refw_1 (i := 4) (by omega) hc.a0 c.kind c.port c.num c.vlan c.memb c.tagd [c.port] hr ho α _ 3 0 0 18446744073709551616 ⟨#[]⟩ (by rw [hl]) (by rw [List.drop_zero, show cnt (Sh 4) = 1 by kernel_rfl]; exact Nat.le_refl _) (by omega) (by show (0 : Nat) + _ ≤ _; omega)).trans ?_
  have hw : rwr c.mac ((Sh 4).drop 0) (([c.port] : List Int).drop 0) = wr 4 c := by kernel_rfl
  rw [hw, show jns ⟨#[]⟩ (wr 4 c) = tl8 4 c from bl_inj (jns_eq (wr 4 c) ⟨#[]⟩ [] rfl (fun x hx => by cases hx))]
theorem refe_5 (α : Type) (G1 G2 G3 : Int → Int → Int → Int → Int → Int → Int → Int → Int → (Nat → Nat → PV) → (Nat → Nat → PV) → Int → Int → Int → Int → Int → Int → Int → (Int → ByteArray → Int → Int → Int → Int → Int → Int → Int → Int → (Nat → Nat → PV) → Option α) → Option α) (G4 : Int → Int → Int → Int → Int → Int → Int → Int → Int → (Nat → Nat → PV) → Int → Int → Int → Int → Int → Int → Int → (Int → ByteArray → Int → Int → Int → Int → Int → Int → Int → Int → (Nat → Nat → PV) → Option α) → Option α) (GL : ByteArray → Option α → (Int → Int → Int → Int → Int → Int → Int → Int → Option α) → Option α → Option α) (rec0 : Int → Int → Int → Int → Int → Int → Int → Int → Int → (Nat → Nat → PV) → Option α) (k0 : ByteArray → Option α) (k1 : Option α) (c : C8) : ref22_Text_L0_s0 G1 GL G2 G3 G4 rec0 k0 k1 ((5 : Nat) : Int) c.what c.kind c.port c.num c.vlan c.memb c.tagd c.mac e38 = G2 ((5 : Nat) : Int) c.what c.kind c.port c.num c.vlan c.memb c.tagd c.mac e38 (rowOf 1 [.val (.int .i64 c.port), .val (.int .i64 c.num)]) c.kind c.port c.num c.vlan c.memb c.tagd c.mac (KK GL rec0 k0) := by kernel_rfl
theorem refs_5 {c : C8} (hc : CB c) (α : Type) (k0 : ByteArray → Option α) (k1 : Option α) (fuel : Nat) : ref22_Text_L0_l0 k0 k1 (fuel + 1) ((5 : Nat) : Int) c.what c.kind c.port c.num c.vlan c.memb c.tagd c.mac e38 = (KK ref22_Line (ref22_Text_L0_l0 k0 k1 fuel) k0) ((5 : Nat) : Int) (tl8 5 c) c.what c.kind c.port c.num c.vlan c.memb c.tagd c.mac e38 := by
  refine (refe_5 α ref22_Text_L3_v1 ref22_Text_L3_v2 ref22_Text_L3_v3 ref22_Text_L3_v4 ref22_Line (ref22_Text_L0_l0 k0 k1 fuel) k0 k1 c).trans ?_
  unfold ref22_Text_L3_v2
  have hr : NB 2 (rowOf 1 [.val (.int .i64 c.port), .val (.int .i64 c.num)]) [c.port, c.num] := ⟨rfl, fun j h => by
    match j, h with
    | 0, _ => rfl
    | 1, _ => rfl
    | j + 2, h => exact absurd h (by simp)⟩
  have ho : ∀ x ∈ ([c.port, c.num] : List Int), okI x = true := fun x hx => by
    simp only [List.mem_cons, List.not_mem_nil, or_false] at hx
    rcases hx with rfl | rfl
    · exact hc.p
    · exact hc.n
  have hl : lenOf (e38 5 0) = 4 := by kernel_rfl
  refine (refw_2 (i := 5) (by omega) hc.a0 c.kind c.port c.num c.vlan c.memb c.tagd [c.port, c.num] hr ho α _ 4 0 0 18446744073709551616 ⟨#[]⟩ (by rw [hl]) (by rw [List.drop_zero, show cnt (Sh 5) = 2 by kernel_rfl]; exact Nat.le_refl _) (by omega) (by show (0 : Nat) + _ ≤ _; omega)).trans ?_
  have hw : rwr c.mac ((Sh 5).drop 0) (([c.port, c.num] : List Int).drop 0) = wr 5 c := by kernel_rfl
  rw [hw, show jns ⟨#[]⟩ (wr 5 c) = tl8 5 c from bl_inj (jns_eq (wr 5 c) ⟨#[]⟩ [] rfl (fun x hx => by cases hx))]
theorem refe_6 (α : Type) (G1 G2 G3 : Int → Int → Int → Int → Int → Int → Int → Int → Int → (Nat → Nat → PV) → (Nat → Nat → PV) → Int → Int → Int → Int → Int → Int → Int → (Int → ByteArray → Int → Int → Int → Int → Int → Int → Int → Int → (Nat → Nat → PV) → Option α) → Option α) (G4 : Int → Int → Int → Int → Int → Int → Int → Int → Int → (Nat → Nat → PV) → Int → Int → Int → Int → Int → Int → Int → (Int → ByteArray → Int → Int → Int → Int → Int → Int → Int → Int → (Nat → Nat → PV) → Option α) → Option α) (GL : ByteArray → Option α → (Int → Int → Int → Int → Int → Int → Int → Int → Option α) → Option α → Option α) (rec0 : Int → Int → Int → Int → Int → Int → Int → Int → Int → (Nat → Nat → PV) → Option α) (k0 : ByteArray → Option α) (k1 : Option α) (c : C8) : ref22_Text_L0_s0 G1 GL G2 G3 G4 rec0 k0 k1 ((6 : Nat) : Int) c.what c.kind c.port c.num c.vlan c.memb c.tagd c.mac e38 = G2 ((6 : Nat) : Int) c.what c.kind c.port c.num c.vlan c.memb c.tagd c.mac e38 (rowOf 1 [.val (.int .i64 c.port), .val (.int .i64 c.num)]) c.kind c.port c.num c.vlan c.memb c.tagd c.mac (KK GL rec0 k0) := by kernel_rfl
theorem refs_6 {c : C8} (hc : CB c) (α : Type) (k0 : ByteArray → Option α) (k1 : Option α) (fuel : Nat) : ref22_Text_L0_l0 k0 k1 (fuel + 1) ((6 : Nat) : Int) c.what c.kind c.port c.num c.vlan c.memb c.tagd c.mac e38 = (KK ref22_Line (ref22_Text_L0_l0 k0 k1 fuel) k0) ((6 : Nat) : Int) (tl8 6 c) c.what c.kind c.port c.num c.vlan c.memb c.tagd c.mac e38 := by
  refine (refe_6 α ref22_Text_L3_v1 ref22_Text_L3_v2 ref22_Text_L3_v3 ref22_Text_L3_v4 ref22_Line (ref22_Text_L0_l0 k0 k1 fuel) k0 k1 c).trans ?_
  unfold ref22_Text_L3_v2
  have hr : NB 2 (rowOf 1 [.val (.int .i64 c.port), .val (.int .i64 c.num)]) [c.port, c.num] := ⟨rfl, fun j h => by
    match j, h with
    | 0, _ => rfl
    | 1, _ => rfl
    | j + 2, h => exact absurd h (by simp)⟩
  have ho : ∀ x ∈ ([c.port, c.num] : List Int), okI x = true := fun x hx => by
    simp only [List.mem_cons, List.not_mem_nil, or_false] at hx
    rcases hx with rfl | rfl
    · exact hc.p
    · exact hc.n
  have hl : lenOf (e38 6 0) = 4 := by kernel_rfl
  refine (refw_2 (i := 6) (by omega) hc.a0 c.kind c.port c.num c.vlan c.memb c.tagd [c.port, c.num] hr ho α _ 4 0 0 18446744073709551616 ⟨#[]⟩ (by rw [hl]) (by rw [List.drop_zero, show cnt (Sh 6) = 2 by kernel_rfl]; exact Nat.le_refl _) (by omega) (by show (0 : Nat) + _ ≤ _; omega)).trans ?_
  have hw : rwr c.mac ((Sh 6).drop 0) (([c.port, c.num] : List Int).drop 0) = wr 6 c := by kernel_rfl
  rw [hw, show jns ⟨#[]⟩ (wr 6 c) = tl8 6 c from bl_inj (jns_eq (wr 6 c) ⟨#[]⟩ [] rfl (fun x hx => by cases hx))]
theorem refe_7 (α : Type) (G1 G2 G3 : Int → Int → Int → Int → Int → Int → Int → Int → Int → (Nat → Nat → PV) → (Nat → Nat → PV) → Int → Int → Int → Int → Int → Int → Int → (Int → ByteArray → Int → Int → Int → Int → Int → Int → Int → Int → (Nat → Nat → PV) → Option α) → Option α) (G4 : Int → Int → Int → Int → Int → Int → Int → Int → Int → (Nat → Nat → PV) → Int → Int → Int → Int → Int → Int → Int → (Int → ByteArray → Int → Int → Int → Int → Int → Int → Int → Int → (Nat → Nat → PV) → Option α) → Option α) (GL : ByteArray → Option α → (Int → Int → Int → Int → Int → Int → Int → Int → Option α) → Option α → Option α) (rec0 : Int → Int → Int → Int → Int → Int → Int → Int → Int → (Nat → Nat → PV) → Option α) (k0 : ByteArray → Option α) (k1 : Option α) (c : C8) : ref22_Text_L0_s0 G1 GL G2 G3 G4 rec0 k0 k1 ((7 : Nat) : Int) c.what c.kind c.port c.num c.vlan c.memb c.tagd c.mac e38 = G3 ((7 : Nat) : Int) c.what c.kind c.port c.num c.vlan c.memb c.tagd c.mac e38 (e66 c.vlan c.memb c.tagd) c.kind c.port c.num c.vlan c.memb c.tagd c.mac (KK GL rec0 k0) := by kernel_rfl
theorem refs_7 {c : C8} (hc : CB c) (α : Type) (k0 : ByteArray → Option α) (k1 : Option α) (fuel : Nat) : ref22_Text_L0_l0 k0 k1 (fuel + 1) ((7 : Nat) : Int) c.what c.kind c.port c.num c.vlan c.memb c.tagd c.mac e38 = (KK ref22_Line (ref22_Text_L0_l0 k0 k1 fuel) k0) ((7 : Nat) : Int) (tl8 7 c) c.what c.kind c.port c.num c.vlan c.memb c.tagd c.mac e38 := by
  refine (refe_7 α ref22_Text_L3_v1 ref22_Text_L3_v2 ref22_Text_L3_v3 ref22_Text_L3_v4 ref22_Line (ref22_Text_L0_l0 k0 k1 fuel) k0 k1 c).trans ?_
  unfold ref22_Text_L3_v3
  have hr : NB 3 (e66 c.vlan c.memb c.tagd) [c.vlan, c.memb, c.tagd] := ⟨rfl, fun j h => by
    match j, h with
    | 0, _ => rfl
    | 1, _ => show IntKind.i64.wrap c.memb = c.memb; exact i64_id (by have := hc.m0; omega) (by have := hc.m1; omega)
    | 2, _ => show IntKind.i64.wrap c.tagd = c.tagd; exact i64_id (by have := hc.t0; omega) (by have := hc.t1; omega)
    | j + 3, h => exact absurd h (by simp)⟩
  have ho : ∀ x ∈ ([c.vlan, c.memb, c.tagd] : List Int), okI x = true := fun x hx => by
    simp only [List.mem_cons, List.not_mem_nil, or_false] at hx
    rcases hx with rfl | rfl | rfl
    · exact hc.v
    · exact (ok8 hc.m0 hc.m1)
    · exact (ok8 hc.t0 hc.t1)
  have hl : lenOf (e38 7 0) = 6 := by kernel_rfl
  refine (refw_3 (i := 7) (by omega) hc.a0 c.kind c.port c.num c.vlan c.memb c.tagd [c.vlan, c.memb, c.tagd] hr ho α _ 6 0 0 18446744073709551616 ⟨#[]⟩ (by rw [hl]) (by rw [List.drop_zero, show cnt (Sh 7) = 3 by kernel_rfl]; exact Nat.le_refl _) (by omega) (by show (0 : Nat) + _ ≤ _; omega)).trans ?_
  have hw : rwr c.mac ((Sh 7).drop 0) (([c.vlan, c.memb, c.tagd] : List Int).drop 0) = wr 7 c := by kernel_rfl
  rw [hw, show jns ⟨#[]⟩ (wr 7 c) = tl8 7 c from bl_inj (jns_eq (wr 7 c) ⟨#[]⟩ [] rfl (fun x hx => by cases hx))]
theorem refe_8 (α : Type) (G1 G2 G3 : Int → Int → Int → Int → Int → Int → Int → Int → Int → (Nat → Nat → PV) → (Nat → Nat → PV) → Int → Int → Int → Int → Int → Int → Int → (Int → ByteArray → Int → Int → Int → Int → Int → Int → Int → Int → (Nat → Nat → PV) → Option α) → Option α) (G4 : Int → Int → Int → Int → Int → Int → Int → Int → Int → (Nat → Nat → PV) → Int → Int → Int → Int → Int → Int → Int → (Int → ByteArray → Int → Int → Int → Int → Int → Int → Int → Int → (Nat → Nat → PV) → Option α) → Option α) (GL : ByteArray → Option α → (Int → Int → Int → Int → Int → Int → Int → Int → Option α) → Option α → Option α) (rec0 : Int → Int → Int → Int → Int → Int → Int → Int → Int → (Nat → Nat → PV) → Option α) (k0 : ByteArray → Option α) (k1 : Option α) (c : C8) : ref22_Text_L0_s0 G1 GL G2 G3 G4 rec0 k0 k1 ((8 : Nat) : Int) c.what c.kind c.port c.num c.vlan c.memb c.tagd c.mac e38 = G1 ((8 : Nat) : Int) c.what c.kind c.port c.num c.vlan c.memb c.tagd c.mac e38 (rowOf 1 [.val (.int .i64 c.vlan)]) c.kind c.port c.num c.vlan c.memb c.tagd c.mac (KK GL rec0 k0) := by kernel_rfl
theorem refs_8 {c : C8} (hc : CB c) (α : Type) (k0 : ByteArray → Option α) (k1 : Option α) (fuel : Nat) : ref22_Text_L0_l0 k0 k1 (fuel + 1) ((8 : Nat) : Int) c.what c.kind c.port c.num c.vlan c.memb c.tagd c.mac e38 = (KK ref22_Line (ref22_Text_L0_l0 k0 k1 fuel) k0) ((8 : Nat) : Int) (tl8 8 c) c.what c.kind c.port c.num c.vlan c.memb c.tagd c.mac e38 := by
  refine (refe_8 α ref22_Text_L3_v1 ref22_Text_L3_v2 ref22_Text_L3_v3 ref22_Text_L3_v4 ref22_Line (ref22_Text_L0_l0 k0 k1 fuel) k0 k1 c).trans ?_
  unfold ref22_Text_L3_v1
  have hr : NB 1 (rowOf 1 [.val (.int .i64 c.vlan)]) [c.vlan] := ⟨rfl, fun j h => by
    match j, h with
    | 0, _ => rfl
    | j + 1, h => exact absurd h (by simp)⟩
  have ho : ∀ x ∈ ([c.vlan] : List Int), okI x = true := fun x hx => by
    simp only [List.mem_cons, List.not_mem_nil, or_false] at hx
    subst hx; exact hc.v
  have hl : lenOf (e38 8 0) = 3 := by kernel_rfl
  refine (refw_1 (i := 8) (by omega) hc.a0 c.kind c.port c.num c.vlan c.memb c.tagd [c.vlan] hr ho α _ 3 0 0 18446744073709551616 ⟨#[]⟩ (by rw [hl]) (by rw [List.drop_zero, show cnt (Sh 8) = 1 by kernel_rfl]; exact Nat.le_refl _) (by omega) (by show (0 : Nat) + _ ≤ _; omega)).trans ?_
  have hw : rwr c.mac ((Sh 8).drop 0) (([c.vlan] : List Int).drop 0) = wr 8 c := by kernel_rfl
  rw [hw, show jns ⟨#[]⟩ (wr 8 c) = tl8 8 c from bl_inj (jns_eq (wr 8 c) ⟨#[]⟩ [] rfl (fun x hx => by cases hx))]
theorem refe_9 (α : Type) (G1 G2 G3 : Int → Int → Int → Int → Int → Int → Int → Int → Int → (Nat → Nat → PV) → (Nat → Nat → PV) → Int → Int → Int → Int → Int → Int → Int → (Int → ByteArray → Int → Int → Int → Int → Int → Int → Int → Int → (Nat → Nat → PV) → Option α) → Option α) (G4 : Int → Int → Int → Int → Int → Int → Int → Int → Int → (Nat → Nat → PV) → Int → Int → Int → Int → Int → Int → Int → (Int → ByteArray → Int → Int → Int → Int → Int → Int → Int → Int → (Nat → Nat → PV) → Option α) → Option α) (GL : ByteArray → Option α → (Int → Int → Int → Int → Int → Int → Int → Int → Option α) → Option α → Option α) (rec0 : Int → Int → Int → Int → Int → Int → Int → Int → Int → (Nat → Nat → PV) → Option α) (k0 : ByteArray → Option α) (k1 : Option α) (c : C8) : ref22_Text_L0_s0 G1 GL G2 G3 G4 rec0 k0 k1 ((9 : Nat) : Int) c.what c.kind c.port c.num c.vlan c.memb c.tagd c.mac e38 = G2 ((9 : Nat) : Int) c.what c.kind c.port c.num c.vlan c.memb c.tagd c.mac e38 (rowOf 1 [.val (.int .i64 c.vlan), .val (.int .i64 c.port)]) c.kind c.port c.num c.vlan c.memb c.tagd c.mac (KK GL rec0 k0) := by kernel_rfl
theorem refs_9 {c : C8} (hc : CB c) (α : Type) (k0 : ByteArray → Option α) (k1 : Option α) (fuel : Nat) : ref22_Text_L0_l0 k0 k1 (fuel + 1) ((9 : Nat) : Int) c.what c.kind c.port c.num c.vlan c.memb c.tagd c.mac e38 = (KK ref22_Line (ref22_Text_L0_l0 k0 k1 fuel) k0) ((9 : Nat) : Int) (tl8 9 c) c.what c.kind c.port c.num c.vlan c.memb c.tagd c.mac e38 := by
  refine (refe_9 α ref22_Text_L3_v1 ref22_Text_L3_v2 ref22_Text_L3_v3 ref22_Text_L3_v4 ref22_Line (ref22_Text_L0_l0 k0 k1 fuel) k0 k1 c).trans ?_
  unfold ref22_Text_L3_v2
  have hr : NB 2 (rowOf 1 [.val (.int .i64 c.vlan), .val (.int .i64 c.port)]) [c.vlan, c.port] := ⟨rfl, fun j h => by
    match j, h with
    | 0, _ => rfl
    | 1, _ => rfl
    | j + 2, h => exact absurd h (by simp)⟩
  have ho : ∀ x ∈ ([c.vlan, c.port] : List Int), okI x = true := fun x hx => by
    simp only [List.mem_cons, List.not_mem_nil, or_false] at hx
    rcases hx with rfl | rfl
    · exact hc.v
    · exact hc.p
  have hl : lenOf (e38 9 0) = 6 := by kernel_rfl
  refine (refw_2 (i := 9) (by omega) hc.a0 c.kind c.port c.num c.vlan c.memb c.tagd [c.vlan, c.port] hr ho α _ 6 0 0 18446744073709551616 ⟨#[]⟩ (by rw [hl]) (by rw [List.drop_zero, show cnt (Sh 9) = 2 by kernel_rfl]; exact Nat.le_refl _) (by omega) (by show (0 : Nat) + _ ≤ _; omega)).trans ?_
  have hw : rwr c.mac ((Sh 9).drop 0) (([c.vlan, c.port] : List Int).drop 0) = wr 9 c := by kernel_rfl
  rw [hw, show jns ⟨#[]⟩ (wr 9 c) = tl8 9 c from bl_inj (jns_eq (wr 9 c) ⟨#[]⟩ [] rfl (fun x hx => by cases hx))]
theorem refe_10 (α : Type) (G1 G2 G3 : Int → Int → Int → Int → Int → Int → Int → Int → Int → (Nat → Nat → PV) → (Nat → Nat → PV) → Int → Int → Int → Int → Int → Int → Int → (Int → ByteArray → Int → Int → Int → Int → Int → Int → Int → Int → (Nat → Nat → PV) → Option α) → Option α) (G4 : Int → Int → Int → Int → Int → Int → Int → Int → Int → (Nat → Nat → PV) → Int → Int → Int → Int → Int → Int → Int → (Int → ByteArray → Int → Int → Int → Int → Int → Int → Int → Int → (Nat → Nat → PV) → Option α) → Option α) (GL : ByteArray → Option α → (Int → Int → Int → Int → Int → Int → Int → Int → Option α) → Option α → Option α) (rec0 : Int → Int → Int → Int → Int → Int → Int → Int → Int → (Nat → Nat → PV) → Option α) (k0 : ByteArray → Option α) (k1 : Option α) (c : C8) : ref22_Text_L0_s0 G1 GL G2 G3 G4 rec0 k0 k1 ((10 : Nat) : Int) c.what c.kind c.port c.num c.vlan c.memb c.tagd c.mac e38 = G1 ((10 : Nat) : Int) c.what c.kind c.port c.num c.vlan c.memb c.tagd c.mac e38 (rowOf 1 [.val (.int .i64 c.vlan)]) c.kind c.port c.num c.vlan c.memb c.tagd c.mac (KK GL rec0 k0) := by kernel_rfl
theorem refs_10 {c : C8} (hc : CB c) (α : Type) (k0 : ByteArray → Option α) (k1 : Option α) (fuel : Nat) : ref22_Text_L0_l0 k0 k1 (fuel + 1) ((10 : Nat) : Int) c.what c.kind c.port c.num c.vlan c.memb c.tagd c.mac e38 = (KK ref22_Line (ref22_Text_L0_l0 k0 k1 fuel) k0) ((10 : Nat) : Int) (tl8 10 c) c.what c.kind c.port c.num c.vlan c.memb c.tagd c.mac e38 := by
  refine (refe_10 α ref22_Text_L3_v1 ref22_Text_L3_v2 ref22_Text_L3_v3 ref22_Text_L3_v4 ref22_Line (ref22_Text_L0_l0 k0 k1 fuel) k0 k1 c).trans ?_
  unfold ref22_Text_L3_v1
  have hr : NB 1 (rowOf 1 [.val (.int .i64 c.vlan)]) [c.vlan] := ⟨rfl, fun j h => by
    match j, h with
    | 0, _ => rfl
    | j + 1, h => exact absurd h (by simp)⟩
  have ho : ∀ x ∈ ([c.vlan] : List Int), okI x = true := fun x hx => by
    simp only [List.mem_cons, List.not_mem_nil, or_false] at hx
    subst hx; exact hc.v
  have hl : lenOf (e38 10 0) = 5 := by kernel_rfl
  refine (refw_1 (i := 10) (by omega) hc.a0 c.kind c.port c.num c.vlan c.memb c.tagd [c.vlan] hr ho α _ 5 0 0 18446744073709551616 ⟨#[]⟩ (by rw [hl]) (by rw [List.drop_zero, show cnt (Sh 10) = 1 by kernel_rfl]; exact Nat.le_refl _) (by omega) (by show (0 : Nat) + _ ≤ _; omega)).trans ?_
  have hw : rwr c.mac ((Sh 10).drop 0) (([c.vlan] : List Int).drop 0) = wr 10 c := by kernel_rfl
  rw [hw, show jns ⟨#[]⟩ (wr 10 c) = tl8 10 c from bl_inj (jns_eq (wr 10 c) ⟨#[]⟩ [] rfl (fun x hx => by cases hx))]
theorem refe_11 (α : Type) (G1 G2 G3 : Int → Int → Int → Int → Int → Int → Int → Int → Int → (Nat → Nat → PV) → (Nat → Nat → PV) → Int → Int → Int → Int → Int → Int → Int → (Int → ByteArray → Int → Int → Int → Int → Int → Int → Int → Int → (Nat → Nat → PV) → Option α) → Option α) (G4 : Int → Int → Int → Int → Int → Int → Int → Int → Int → (Nat → Nat → PV) → Int → Int → Int → Int → Int → Int → Int → (Int → ByteArray → Int → Int → Int → Int → Int → Int → Int → Int → (Nat → Nat → PV) → Option α) → Option α) (GL : ByteArray → Option α → (Int → Int → Int → Int → Int → Int → Int → Int → Option α) → Option α → Option α) (rec0 : Int → Int → Int → Int → Int → Int → Int → Int → Int → (Nat → Nat → PV) → Option α) (k0 : ByteArray → Option α) (k1 : Option α) (c : C8) : ref22_Text_L0_s0 G1 GL G2 G3 G4 rec0 k0 k1 ((11 : Nat) : Int) c.what c.kind c.port c.num c.vlan c.memb c.tagd c.mac e38 = G4 ((11 : Nat) : Int) c.what c.kind c.port c.num c.vlan c.memb c.tagd c.mac e38 c.kind c.port c.num c.vlan c.memb c.tagd c.mac (KK GL rec0 k0) := by kernel_rfl
theorem refs_11 {c : C8} (hc : CB c) (α : Type) (k0 : ByteArray → Option α) (k1 : Option α) (fuel : Nat) : ref22_Text_L0_l0 k0 k1 (fuel + 1) ((11 : Nat) : Int) c.what c.kind c.port c.num c.vlan c.memb c.tagd c.mac e38 = (KK ref22_Line (ref22_Text_L0_l0 k0 k1 fuel) k0) ((11 : Nat) : Int) (tl8 11 c) c.what c.kind c.port c.num c.vlan c.memb c.tagd c.mac e38 := by
  refine (refe_11 α ref22_Text_L3_v1 ref22_Text_L3_v2 ref22_Text_L3_v3 ref22_Text_L3_v4 ref22_Line (ref22_Text_L0_l0 k0 k1 fuel) k0 k1 c).trans ?_
  unfold ref22_Text_L3_v4
  have hl : lenOf (e38 11 0) = 1 := by kernel_rfl
  refine (refw_4 (i := 11) (by omega) hc.a0 c.kind c.port c.num c.vlan c.memb c.tagd [] rfl (fun x hx => by cases hx) α _ 1 0 0 18446744073709551616 ⟨#[]⟩ (by rw [hl]) (by rw [List.drop_zero, show cnt (Sh 11) = 0 by kernel_rfl]; exact Nat.le_refl _) (by omega) (by show (0 : Nat) + _ ≤ _; omega)).trans ?_
  have hw : rwr c.mac ((Sh 11).drop 0) (([] : List Int).drop 0) = wr 11 c := by kernel_rfl
  rw [hw, show jns ⟨#[]⟩ (wr 11 c) = tl8 11 c from bl_inj (jns_eq (wr 11 c) ⟨#[]⟩ [] rfl (fun x hx => by cases hx))]
theorem refe_12 (α : Type) (G1 G2 G3 : Int → Int → Int → Int → Int → Int → Int → Int → Int → (Nat → Nat → PV) → (Nat → Nat → PV) → Int → Int → Int → Int → Int → Int → Int → (Int → ByteArray → Int → Int → Int → Int → Int → Int → Int → Int → (Nat → Nat → PV) → Option α) → Option α) (G4 : Int → Int → Int → Int → Int → Int → Int → Int → Int → (Nat → Nat → PV) → Int → Int → Int → Int → Int → Int → Int → (Int → ByteArray → Int → Int → Int → Int → Int → Int → Int → Int → (Nat → Nat → PV) → Option α) → Option α) (GL : ByteArray → Option α → (Int → Int → Int → Int → Int → Int → Int → Int → Option α) → Option α → Option α) (rec0 : Int → Int → Int → Int → Int → Int → Int → Int → Int → (Nat → Nat → PV) → Option α) (k0 : ByteArray → Option α) (k1 : Option α) (c : C8) : ref22_Text_L0_s0 G1 GL G2 G3 G4 rec0 k0 k1 ((12 : Nat) : Int) c.what c.kind c.port c.num c.vlan c.memb c.tagd c.mac e38 = G4 ((12 : Nat) : Int) c.what c.kind c.port c.num c.vlan c.memb c.tagd c.mac e38 c.kind c.port c.num c.vlan c.memb c.tagd c.mac (KK GL rec0 k0) := by kernel_rfl
theorem refs_12 {c : C8} (hc : CB c) (α : Type) (k0 : ByteArray → Option α) (k1 : Option α) (fuel : Nat) : ref22_Text_L0_l0 k0 k1 (fuel + 1) ((12 : Nat) : Int) c.what c.kind c.port c.num c.vlan c.memb c.tagd c.mac e38 = (KK ref22_Line (ref22_Text_L0_l0 k0 k1 fuel) k0) ((12 : Nat) : Int) (tl8 12 c) c.what c.kind c.port c.num c.vlan c.memb c.tagd c.mac e38 := by
  refine (refe_12 α ref22_Text_L3_v1 ref22_Text_L3_v2 ref22_Text_L3_v3 ref22_Text_L3_v4 ref22_Line (ref22_Text_L0_l0 k0 k1 fuel) k0 k1 c).trans ?_
  unfold ref22_Text_L3_v4
  have hl : lenOf (e38 12 0) = 1 := by kernel_rfl
  refine (refw_4 (i := 12) (by omega) hc.a0 c.kind c.port c.num c.vlan c.memb c.tagd [] rfl (fun x hx => by cases hx) α _ 1 0 0 18446744073709551616 ⟨#[]⟩ (by rw [hl]) (by rw [List.drop_zero, show cnt (Sh 12) = 0 by kernel_rfl]; exact Nat.le_refl _) (by omega) (by show (0 : Nat) + _ ≤ _; omega)).trans ?_
  have hw : rwr c.mac ((Sh 12).drop 0) (([] : List Int).drop 0) = wr 12 c := by kernel_rfl
  rw [hw, show jns ⟨#[]⟩ (wr 12 c) = tl8 12 c from bl_inj (jns_eq (wr 12 c) ⟨#[]⟩ [] rfl (fun x hx => by cases hx))]
theorem refe_13 (α : Type) (G1 G2 G3 : Int → Int → Int → Int → Int → Int → Int → Int → Int → (Nat → Nat → PV) → (Nat → Nat → PV) → Int → Int → Int → Int → Int → Int → Int → (Int → ByteArray → Int → Int → Int → Int → Int → Int → Int → Int → (Nat → Nat → PV) → Option α) → Option α) (G4 : Int → Int → Int → Int → Int → Int → Int → Int → Int → (Nat → Nat → PV) → Int → Int → Int → Int → Int → Int → Int → (Int → ByteArray → Int → Int → Int → Int → Int → Int → Int → Int → (Nat → Nat → PV) → Option α) → Option α) (GL : ByteArray → Option α → (Int → Int → Int → Int → Int → Int → Int → Int → Option α) → Option α → Option α) (rec0 : Int → Int → Int → Int → Int → Int → Int → Int → Int → (Nat → Nat → PV) → Option α) (k0 : ByteArray → Option α) (k1 : Option α) (c : C8) : ref22_Text_L0_s0 G1 GL G2 G3 G4 rec0 k0 k1 ((13 : Nat) : Int) c.what c.kind c.port c.num c.vlan c.memb c.tagd c.mac e38 = G4 ((13 : Nat) : Int) c.what c.kind c.port c.num c.vlan c.memb c.tagd c.mac e38 c.kind c.port c.num c.vlan c.memb c.tagd c.mac (KK GL rec0 k0) := by kernel_rfl
theorem refs_13 {c : C8} (hc : CB c) (α : Type) (k0 : ByteArray → Option α) (k1 : Option α) (fuel : Nat) : ref22_Text_L0_l0 k0 k1 (fuel + 1) ((13 : Nat) : Int) c.what c.kind c.port c.num c.vlan c.memb c.tagd c.mac e38 = (KK ref22_Line (ref22_Text_L0_l0 k0 k1 fuel) k0) ((13 : Nat) : Int) (tl8 13 c) c.what c.kind c.port c.num c.vlan c.memb c.tagd c.mac e38 := by
  refine (refe_13 α ref22_Text_L3_v1 ref22_Text_L3_v2 ref22_Text_L3_v3 ref22_Text_L3_v4 ref22_Line (ref22_Text_L0_l0 k0 k1 fuel) k0 k1 c).trans ?_
  unfold ref22_Text_L3_v4
  have hl : lenOf (e38 13 0) = 2 := by kernel_rfl
  refine (refw_4 (i := 13) (by omega) hc.a0 c.kind c.port c.num c.vlan c.memb c.tagd [] rfl (fun x hx => by cases hx) α _ 2 0 0 18446744073709551616 ⟨#[]⟩ (by rw [hl]) (by rw [List.drop_zero, show cnt (Sh 13) = 0 by kernel_rfl]; exact Nat.le_refl _) (by omega) (by show (0 : Nat) + _ ≤ _; omega)).trans ?_
  have hw : rwr c.mac ((Sh 13).drop 0) (([] : List Int).drop 0) = wr 13 c := by kernel_rfl
  rw [hw, show jns ⟨#[]⟩ (wr 13 c) = tl8 13 c from bl_inj (jns_eq (wr 13 c) ⟨#[]⟩ [] rfl (fun x hx => by cases hx))]
theorem refe_14 (α : Type) (G1 G2 G3 : Int → Int → Int → Int → Int → Int → Int → Int → Int → (Nat → Nat → PV) → (Nat → Nat → PV) → Int → Int → Int → Int → Int → Int → Int → (Int → ByteArray → Int → Int → Int → Int → Int → Int → Int → Int → (Nat → Nat → PV) → Option α) → Option α) (G4 : Int → Int → Int → Int → Int → Int → Int → Int → Int → (Nat → Nat → PV) → Int → Int → Int → Int → Int → Int → Int → (Int → ByteArray → Int → Int → Int → Int → Int → Int → Int → Int → (Nat → Nat → PV) → Option α) → Option α) (GL : ByteArray → Option α → (Int → Int → Int → Int → Int → Int → Int → Int → Option α) → Option α → Option α) (rec0 : Int → Int → Int → Int → Int → Int → Int → Int → Int → (Nat → Nat → PV) → Option α) (k0 : ByteArray → Option α) (k1 : Option α) (c : C8) : ref22_Text_L0_s0 G1 GL G2 G3 G4 rec0 k0 k1 ((14 : Nat) : Int) c.what c.kind c.port c.num c.vlan c.memb c.tagd c.mac e38 = G4 ((14 : Nat) : Int) c.what c.kind c.port c.num c.vlan c.memb c.tagd c.mac e38 c.kind c.port c.num c.vlan c.memb c.tagd c.mac (KK GL rec0 k0) := by kernel_rfl
theorem refs_14 {c : C8} (hc : CB c) (α : Type) (k0 : ByteArray → Option α) (k1 : Option α) (fuel : Nat) : ref22_Text_L0_l0 k0 k1 (fuel + 1) ((14 : Nat) : Int) c.what c.kind c.port c.num c.vlan c.memb c.tagd c.mac e38 = (KK ref22_Line (ref22_Text_L0_l0 k0 k1 fuel) k0) ((14 : Nat) : Int) (tl8 14 c) c.what c.kind c.port c.num c.vlan c.memb c.tagd c.mac e38 := by
  refine (refe_14 α ref22_Text_L3_v1 ref22_Text_L3_v2 ref22_Text_L3_v3 ref22_Text_L3_v4 ref22_Line (ref22_Text_L0_l0 k0 k1 fuel) k0 k1 c).trans ?_
  unfold ref22_Text_L3_v4
  have hl : lenOf (e38 14 0) = 2 := by kernel_rfl
  refine (refw_4 (i := 14) (by omega) hc.a0 c.kind c.port c.num c.vlan c.memb c.tagd [] rfl (fun x hx => by cases hx) α _ 2 0 0 18446744073709551616 ⟨#[]⟩ (by rw [hl]) (by rw [List.drop_zero, show cnt (Sh 14) = 0 by kernel_rfl]; exact Nat.le_refl _) (by omega) (by show (0 : Nat) + _ ≤ _; omega)).trans ?_
  have hw : rwr c.mac ((Sh 14).drop 0) (([] : List Int).drop 0) = wr 14 c := by kernel_rfl
  rw [hw, show jns ⟨#[]⟩ (wr 14 c) = tl8 14 c from bl_inj (jns_eq (wr 14 c) ⟨#[]⟩ [] rfl (fun x hx => by cases hx))]
theorem refe_15 (α : Type) (G1 G2 G3 : Int → Int → Int → Int → Int → Int → Int → Int → Int → (Nat → Nat → PV) → (Nat → Nat → PV) → Int → Int → Int → Int → Int → Int → Int → (Int → ByteArray → Int → Int → Int → Int → Int → Int → Int → Int → (Nat → Nat → PV) → Option α) → Option α) (G4 : Int → Int → Int → Int → Int → Int → Int → Int → Int → (Nat → Nat → PV) → Int → Int → Int → Int → Int → Int → Int → (Int → ByteArray → Int → Int → Int → Int → Int → Int → Int → Int → (Nat → Nat → PV) → Option α) → Option α) (GL : ByteArray → Option α → (Int → Int → Int → Int → Int → Int → Int → Int → Option α) → Option α → Option α) (rec0 : Int → Int → Int → Int → Int → Int → Int → Int → Int → (Nat → Nat → PV) → Option α) (k0 : ByteArray → Option α) (k1 : Option α) (c : C8) : ref22_Text_L0_s0 G1 GL G2 G3 G4 rec0 k0 k1 ((15 : Nat) : Int) c.what c.kind c.port c.num c.vlan c.memb c.tagd c.mac e38 = G4 ((15 : Nat) : Int) c.what c.kind c.port c.num c.vlan c.memb c.tagd c.mac e38 c.kind c.port c.num c.vlan c.memb c.tagd c.mac (KK GL rec0 k0) := by kernel_rfl
theorem refs_15 {c : C8} (hc : CB c) (α : Type) (k0 : ByteArray → Option α) (k1 : Option α) (fuel : Nat) : ref22_Text_L0_l0 k0 k1 (fuel + 1) ((15 : Nat) : Int) c.what c.kind c.port c.num c.vlan c.memb c.tagd c.mac e38 = (KK ref22_Line (ref22_Text_L0_l0 k0 k1 fuel) k0) ((15 : Nat) : Int) (tl8 15 c) c.what c.kind c.port c.num c.vlan c.memb c.tagd c.mac e38 := by
  refine (refe_15 α ref22_Text_L3_v1 ref22_Text_L3_v2 ref22_Text_L3_v3 ref22_Text_L3_v4 ref22_Line (ref22_Text_L0_l0 k0 k1 fuel) k0 k1 c).trans ?_
  unfold ref22_Text_L3_v4
  have hl : lenOf (e38 15 0) = 2 := by kernel_rfl
  refine (refw_4 (i := 15) (by omega) hc.a0 c.kind c.port c.num c.vlan c.memb c.tagd [] rfl (fun x hx => by cases hx) α _ 2 0 0 18446744073709551616 ⟨#[]⟩ (by rw [hl]) (by rw [List.drop_zero, show cnt (Sh 15) = 0 by kernel_rfl]; exact Nat.le_refl _) (by omega) (by show (0 : Nat) + _ ≤ _; omega)).trans ?_
  have hw : rwr c.mac ((Sh 15).drop 0) (([] : List Int).drop 0) = wr 15 c := by kernel_rfl
  rw [hw, show jns ⟨#[]⟩ (wr 15 c) = tl8 15 c from bl_inj (jns_eq (wr 15 c) ⟨#[]⟩ [] rfl (fun x hx => by cases hx))]
theorem text_step {c : C8} (hc : CB c) (i : Nat) (hi : i < 16) (α : Type) (k0 : ByteArray → Option α) (k1 : Option α) (fuel : Nat) : ref22_Text_L0_l0 k0 k1 (fuel + 1) (i : Int) c.what c.kind c.port c.num c.vlan c.memb c.tagd c.mac e38 = match tx i c with
      | some t => k0 t
      | none => ref22_Text_L0_l0 k0 k1 fuel ((i + 1 : Nat) : Int) c.what c.kind c.port c.num c.vlan c.memb c.tagd c.mac e38 := by
  have h : ref22_Text_L0_l0 k0 k1 (fuel + 1) (i : Int) c.what c.kind c.port c.num c.vlan c.memb c.tagd c.mac e38 = (KK ref22_Line (ref22_Text_L0_l0 k0 k1 fuel) k0) (i : Int) (tl8 i c) c.what c.kind c.port c.num c.vlan c.memb c.tagd c.mac e38 := by
    match i, hi with
    | 0, _ => exact refs_0 hc α k0 k1 fuel
    | 1, _ => exact refs_1 hc α k0 k1 fuel
    | 2, _ => exact refs_2 hc α k0 k1 fuel
    | 3, _ => exact refs_3 hc α k0 k1 fuel
    | 4, _ => exact refs_4 hc α k0 k1 fuel
    | 5, _ => exact refs_5 hc α k0 k1 fuel
    | 6, _ => exact refs_6 hc α k0 k1 fuel
    | 7, _ => exact refs_7 hc α k0 k1 fuel
    | 8, _ => exact refs_8 hc α k0 k1 fuel
    | 9, _ => exact refs_9 hc α k0 k1 fuel
    | 10, _ => exact refs_10 hc α k0 k1 fuel
    | 11, _ => exact refs_11 hc α k0 k1 fuel
    | 12, _ => exact refs_12 hc α k0 k1 fuel
    | 13, _ => exact refs_13 hc α k0 k1 fuel
    | 14, _ => exact refs_14 hc α k0 k1 fuel
    | 15, _ => exact refs_15 hc α k0 k1 fuel
    | n + 16, h => omega
  rw [h]
  obtain ⟨z1, z2⟩ := line_wr hc i hi
  rw [KK_eq, lineR _ (by omega), z2, i64_id (by omega) (by omega), show ((i + 1 : Nat) : Int) = (i : Int) + 1 by omega]
  unfold tx
  cases ht : tk i (wr i c) with
  | none => rfl
  | some d =>
    have hne : ne ((wr i c).map (·.data.toList)) = (wr i c).map (·.data.toList) := ne_keep fun w hw e => by
      obtain ⟨b, hb, rfl⟩ := List.mem_map.1 hw
      rw [tk_empty hi ⟨b, hb, e⟩] at ht
      cases ht
    have ej : tl8 i c = jb (wr i c) := by unfold tl8 jb; rw [hne]
    rw [ej]
    show (bif same8 d c then k0 (jb (wr i c)) else _) = _
    dsimp only
    cases same8 d c <;> rfl
theorem textR {c : C8} (hc : CB c) (α : Type) (k0 : ByteArray → Option α) (k1 : Option α) : ref22_Text c.what c.kind c.port c.num c.vlan c.memb c.tagd c.mac k0 k1 = match textO c with
      | some t => k0 t
      | none => k1 := by
  have loop : ∀ (d i fuel : Nat), i + d = 16 → d < fuel → ref22_Text_L0_l0 k0 k1 fuel (i : Int) c.what c.kind c.port c.num c.vlan c.memb c.tagd c.mac e38 = match firstT (fun j => tx j c) i d with
      | some t => k0 t
      | none => k1 := by
    intro d
    induction d with
    | zero =>
      intro i fuel hi hf
      obtain ⟨fuel, rfl⟩ : ∃ m, fuel = m + 1 := ⟨fuel - 1, by omega⟩
      obtain rfl : i = 16 := by omega
      show ref22_Text_L0_s0 _ _ _ _ _ _ k0 k1 ((16 : Nat) : Int) c.what c.kind c.port c.num c.vlan c.memb c.tagd c.mac e38 = k1
      unfold ref22_Text_L0_s0
      rw [dec_f (by omega), cond_false]
    | succ d ih =>
      intro i fuel hi hf
      obtain ⟨fuel, rfl⟩ : ∃ m, fuel = m + 1 := ⟨fuel - 1, by omega⟩
      rw [text_step hc i (by omega)]
      unfold firstT
      cases tx i c with
      | some t => rfl
      | none => exact ih (i + 1) fuel (by omega) (by omega)
  unfold ref22_Text ref22_Text_T ref22_Text_L0
  exact loop 16 0 18446744073709551616 (by omega) (by omega)
end Go.Proofs.YtijabmpcicddbaaDoor.ParseTexts

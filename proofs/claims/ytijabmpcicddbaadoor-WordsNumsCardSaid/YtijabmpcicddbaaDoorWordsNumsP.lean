/- WordsNums: what the code comes to answers true: plain numbers and texts, no program in sight. -/
import Derived.Test.YtijabmpcicddbaaDoorWordsL
set_option linter.unusedVariables false
set_option linter.unusedSimpArgs false
namespace Go.Proofs.YtijabmpcicddbaaDoor.WordsNums
open Go.Ve Go.Proofs.YtijabmpcicddbaaDoor.Words
theorem not_num {s : ByteArray} (h : ∀ u : Nat, u ≤ 4294967295 → s.data.toList = Lib.decDigits u → False) : numOk s = false := by
  cases hb : numOk s with
  | false => rfl
  | true => obtain ⟨u, hu, hd⟩ := numOk_spec.1 hb; exact (h u hu hd).elim
theorem not_all {s : ByteArray} (h : allD s.data.toList = false) : numOk s = false := not_num fun u _ hd => by rw [hd, dec_all] at h; cases h
/-- digits do not begin with a nought, but for nought itself -/
theorem dec_nought : ∀ (u : Nat) (r : List UInt8), Lib.decDigits u = 48 :: r → u = 0 := by
  intro u
  induction u using Nat.strongRecOn with
  | _ u ih =>
    intro r h
    rw [Lib.decDigits] at h
    split at h
    · rename_i hu
      injection h with h1 _
      have := congrArg UInt8.toNat h1
      rw [u8_digit hu] at this
      have : 48 + u = 48 := this
      omega
    · rename_i hu
      obtain ⟨c, r', e, _, _⟩ := dec_head (u / 10)
      rw [e] at h
      injection h with h1 _
      subst h1
      have := ih (u / 10) (by omega) r' e
      omega
theorem main {α : Type} (a_1 : Int) (a_2 : ByteArray) (h_1 : PvOk (.val (.int .u64 a_1))) (h_2 : PvOk (.val (.string a_2))) (k0 k1 : Option α) : law21_WordsNums a_1 a_2 k0 k1 = k0 := by
  unfold law21_WordsNums law21_WordsNums_T
  by_cases hs : (a_2.size : Int) > 3000
  · rw [dec_t hs, cond_true]
  rw [dec_f hs, cond_false]
  obtain ⟨u0, u1⟩ := pv_u64 h_1
  obtain ⟨u, hu, hm⟩ : ∃ u : Nat, u < 1099511627776 ∧ IntKind.i64.wrap (a_1.tmod 1099511627776) = (u : Int) := by
    have h1 : a_1.tmod 1099511627776 = a_1 % 1099511627776 := Int.tmod_eq_emod_of_nonneg u0
    refine ⟨(a_1 % 1099511627776).toNat, by omega, ?_⟩
    rw [h1, i64_id (by omega) (by omega)]
    omega
  have ho : okI (u : Int) = true := okI_spec.2 ⟨by omega, by omega⟩
  have hit : (itoaS (u : Int)).data.toList = Lib.decDigits u := by
    rw [itoaS_eq ho]
    show Lib.itoa (u : Int) = _
    unfold Lib.itoa
    rw [if_neg (by omega), Int.toNat_natCast]
  have hisz : (itoaS (u : Int)).size ≤ 13 := by
    have := dec_len 12 u (by omega)
    rw [← hit, bl_size] at this
    omega
  have hnum : numOk (itoaS (u : Int)) = decide ((u : Int) < 4294967296) := by
    by_cases h : (u : Int) < 4294967296
    · rw [dec_t h]
      exact numOk_spec.2 ⟨u, by omega, hit⟩
    · rw [dec_f h]
      refine not_num fun v hv hd => ?_
      have h1 := numV_spec hit
      have h2 := numV_spec hd
      omega
  have g1 : e9 a_1 = false := by unfold e9; rw [hm, hnum, beq_self_eq_true]; rfl
  have g2 : (u : Int) < 4294967296 → e10 a_1 = false := fun h => by
    unfold e10 numI
    rw [hm, hnum, dec_t h, cond_true, numV_spec hit]
    simp
  -- what is no number's text
  have n0 : numOk ((⟨#[48]⟩ : ByteArray) ++ itoaS (u : Int)) = false := not_num fun v _ hd => by
    rw [bl_append, hit] at hd
    have hv := dec_nought v _ hd.symm
    subst hv
    have := congrArg List.length hd
    obtain ⟨c, r, e, _, _⟩ := dec_head u
    rw [e, Lib.decDigits, dif_pos (by omega)] at this
    simp at this
  have n1 : numOk ((⟨#[45]⟩ : ByteArray) ++ itoaS (u : Int)) = false := not_all (by rw [bl_append]; rfl)
  have n3 : numOk ((⟨#[43]⟩ : ByteArray) ++ itoaS (u : Int)) = false := not_all (by rw [bl_append]; rfl)
  have n2 : numOk (itoaS (u : Int) ++ (⟨#[32]⟩ : ByteArray)) = false := not_all (by
    rw [bl_append]
    unfold allD
    rw [List.all_append]
    show (_ && false) = false
    rw [Bool.and_false])
  have z1 : ((⟨#[48]⟩ : ByteArray) ++ itoaS (u : Int)).size ≤ 14 := by rw [ByteArray.size_append]; show 1 + _ ≤ _; omega
  have z2 : ((⟨#[45]⟩ : ByteArray) ++ itoaS (u : Int)).size ≤ 14 := by rw [ByteArray.size_append]; show 1 + _ ≤ _; omega
  have z3 : ((⟨#[43]⟩ : ByteArray) ++ itoaS (u : Int)).size ≤ 14 := by rw [ByteArray.size_append]; show 1 + _ ≤ _; omega
  have z4 : (itoaS (u : Int) ++ (⟨#[32]⟩ : ByteArray)).size ≤ 14 := by rw [ByteArray.size_append]; show _ + 1 ≤ _; omega
  have y1 : (⟨#[48]⟩ : ByteArray).size + (itoaS (u : Int)).size ≤ 4611686018427387904 := by show 1 + _ ≤ _; omega
  have y2 : (⟨#[45]⟩ : ByteArray).size + (itoaS (u : Int)).size ≤ 4611686018427387904 := by show 1 + _ ≤ _; omega
  have y3 : (⟨#[43]⟩ : ByteArray).size + (itoaS (u : Int)).size ≤ 4611686018427387904 := by show 1 + _ ≤ _; omega
  have y4 : (itoaS (u : Int)).size + (⟨#[32]⟩ : ByteArray).size ≤ 4611686018427387904 := by show _ + 1 ≤ _; omega
  -- the last word
  have last : (bif !(numOk a_2) then k0 else bif okI (numI a_2) then bif ((itoaS (numI a_2)).toList == a_2.toList) then bif decide ((numI a_2) ≥ 0) then bif decide ((numI a_2) < 4294967296) then k0 else k1 else k1 else k1 else none) = k0 := by
    cases hb : numOk a_2 with
    | false => rfl
    | true =>
      obtain ⟨v, hv, hd⟩ := numOk_spec.1 hb
      have hi : numI a_2 = (v : Int) := by unfold numI; rw [hb, cond_true, numV_spec hd]
      have ho : okI (v : Int) = true := okI_spec.2 ⟨by omega, by omega⟩
      have hs : itoaS (v : Int) = a_2 := bl_inj (by
        rw [itoaS_eq ho, hd]
        show Lib.itoa (v : Int) = _
        unfold Lib.itoa
        rw [if_neg (by omega), Int.toNat_natCast])
      rw [hi, ho, hs, beq_self_eq_true, dec_t (show (v : Int) ≥ 0 by omega), dec_t (show (v : Int) < 4294967296 by omega)]
      rfl
  rw [g1, hm, ho, cond_true, ble_true (by omega), cond_true, cond_false, hnum]
  by_cases h : (u : Int) < 4294967296
  · rw [dec_t h, cond_true, g2 h, cond_false, ble_true y1, ble_true (show ((⟨#[48]⟩ : ByteArray) ++ itoaS (u : Int)).size ≤ 281474976710656 by omega), ble_true y2, ble_true (show ((⟨#[45]⟩ : ByteArray) ++ itoaS (u : Int)).size ≤ 281474976710656 by omega), ble_true y4, ble_true (show (itoaS (u : Int) ++ (⟨#[32]⟩ : ByteArray)).size ≤ 281474976710656 by omega), ble_true y3, ble_true (show ((⟨#[43]⟩ : ByteArray) ++ itoaS (u : Int)).size ≤ 281474976710656 by omega), n0, n1, n2, n3, ble_true (show a_2.size ≤ 281474976710656 by omega)]
    exact last
  · rw [dec_f h, cond_false, ble_true y1, ble_true (show ((⟨#[48]⟩ : ByteArray) ++ itoaS (u : Int)).size ≤ 281474976710656 by omega), ble_true y2, ble_true (show ((⟨#[45]⟩ : ByteArray) ++ itoaS (u : Int)).size ≤ 281474976710656 by omega), ble_true y4, ble_true (show (itoaS (u : Int) ++ (⟨#[32]⟩ : ByteArray)).size ≤ 281474976710656 by omega), ble_true y3, ble_true (show ((⟨#[43]⟩ : ByteArray) ++ itoaS (u : Int)).size ≤ 281474976710656 by omega), n0, n1, n2, n3, ble_true (show a_2.size ≤ 281474976710656 by omega)]
    exact last
end Go.Proofs.YtijabmpcicddbaaDoor.WordsNums

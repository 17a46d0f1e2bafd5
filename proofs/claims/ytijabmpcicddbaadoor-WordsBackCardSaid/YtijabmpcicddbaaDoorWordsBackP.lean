/- WordsBack: what the code comes to answers true: plain numbers and texts, no program in sight. -/
import Derived.Test.YtijabmpcicddbaaDoorWordsL
set_option linter.unusedVariables false
set_option linter.unusedSimpArgs false
namespace Go.Proofs.YtijabmpcicddbaaDoor.WordsBack
open Go.Ve Go.Proofs.YtijabmpcicddbaaDoor.Words
theorem letters {α : Type} (A : Int) (b1 : Bool) (m : Nat) (g : Nat → Nat → PV) (b2 : Bool) (N : Nat) (hN : N ≤ 1000000) (row : Nat → Nat → PV) (L : List (List UInt8)) (hL : TL N row L) (hg : Ve.Good L) (hb : bulk L ≤ 1000000) (k0 : Option α) (k1 : Int → Bool → Nat → (Nat → Nat → PV) → Int → Bool → Nat → (Nat → Nat → PV) → Option α) (i : Nat) (hi : i < N) :
    ∀ (d j fuel : Nat), j + d = (L[i]'(by rw [hL.1]; exact hi)).length → d < fuel → law21_WordsBack_L2_v1_l0 k0 k1 fuel A b1 m g (i : Int) (j : Int) b2 N row = k1 A b1 m g (i : Int) b2 N row := by
  have hlt : i < L.length := by rw [hL.1]; exact hi
  have hx := hL.2 i hlt
  have hin : inb (i : Int) N = true := inb_t (by omega) (by omega)
  have hxz : (textOf (row i 0)).size = (L[i]).length := by rw [← hx]; rfl
  have hbl : (L[i]).length ≤ 1000000 := by
    have : L = L.take i ++ L[i] :: L.drop (i + 1) := by rw [← List.drop_eq_getElem_cons hlt, List.take_append_drop]
    have h2 : bulk L = bulk (L.take i ++ L[i] :: L.drop (i + 1)) := by rw [← this]
    rw [bulk_append] at h2
    simp only [bulk] at h2
    omega
  intro d
  induction d with
  | zero =>
    intro j fuel hj hf
    cases fuel with
    | zero => omega
    | succ fuel =>
      show law21_WordsBack_L2_v1_s0 _ k0 k1 A b1 m g (i : Int) (j : Int) b2 N row = _
      unfold law21_WordsBack_L2_v1_s0
      rw [hin, cond_true, Int.toNat_natCast, hxz, dec_f (show ¬ (j : Int) < (((L[i]).length : Nat) : Int) by omega), cond_false]
  | succ d ih =>
    intro j fuel hj hf
    cases fuel with
    | zero => omega
    | succ fuel =>
      have hj2 : j < (textOf (row i 0)).data.toList.length := by rw [hx]; omega
      have hbt := bt_get (textOf (row i 0)) j hj2
      have hc : (bt (textOf (row i 0)) (j : Int) == 32) = false := by
        rw [hbt]
        have h1 := (hg (L[i]) (List.getElem_mem hlt)).2 ((textOf (row i 0)).data.toList[j]) (by rw [← hx]; exact List.getElem_mem hj2)
        have : (((textOf (row i 0)).data.toList[j]).toNat : Int) ≠ 32 := fun e => h1 (by
          have e2 : ((textOf (row i 0)).data.toList[j]).toNat = 32 := by omega
          have := congrArg UInt8.ofNat e2
          simpa using this)
        simpa using this
      show law21_WordsBack_L2_v1_s0 _ k0 k1 A b1 m g (i : Int) (j : Int) b2 N row = _
      unfold law21_WordsBack_L2_v1_s0
      rw [hin, cond_true, Int.toNat_natCast, hc, hxz, dec_t (show (j : Int) < (((L[i]).length : Nat) : Int) by omega), cond_true, cond_true, inb_t (show (0 : Int) ≤ (j : Int) by omega) (show (j : Int) < (((L[i]).length : Nat) : Int) by omega), cond_true, cond_false, i64_id (by omega) (by omega)]
      exact ih (j + 1) fuel (by omega) (by omega)
theorem all_words {α : Type} (A : Int) (b1 : Bool) (m : Nat) (g : Nat → Nat → PV) (b2 : Bool) (N : Nat) (hN : N ≤ 1000000) (row : Nat → Nat → PV) (L : List (List UInt8)) (hL : TL N row L) (hg : Ve.Good L) (hb : bulk L ≤ 1000000) (k0 : Option α) (k1 : Int → Bool → Nat → (Nat → Nat → PV) → Option α) :
    ∀ (d i fuel : Nat), i + d = N → d < fuel → law21_WordsBack_L0_l0 k0 k1 fuel A b1 m g (i : Int) b2 N row = k1 A b1 m g
  | d, i, 0, hi, hf => absurd hf (by omega)
  | 0, i, fuel + 1, hi, hf => by
    show law21_WordsBack_L0_s0 _ _ k0 k1 A b1 m g (i : Int) b2 N row = _
    unfold law21_WordsBack_L0_s0
    rw [dec_f (show ¬ (i : Int) < (N : Int) by omega), cond_false]
  | d + 1, i, fuel + 1, hi, hf => by
    have hlt : i < L.length := by rw [hL.1]; omega
    have hx := hL.2 i hlt
    have he : (L[i]).isEmpty = false := List.isEmpty_eq_false_iff.2 (hg (L[i]) (List.getElem_mem hlt)).1
    show law21_WordsBack_L0_s0 _ _ k0 k1 A b1 m g (i : Int) b2 N row = _
    unfold law21_WordsBack_L0_s0 law21_WordsBack_L2_v1
    have hl := letters A b1 m g b2 N hN row L hL hg hb k0 (fun r_9 r_10 r_11 r_12 r_13 r_14 r_15 r_16 => law21_WordsBack_L0_l0 k0 k1 fuel r_9 r_10 r_11 r_12 (IntKind.i64.wrap (r_13 + 1)) r_14 r_15 r_16) i (by omega) (L[i]).length 0 18446744073709551616 (by omega) (by
      have := bulk_len L
      have : (L[i]).length ≤ 1000000 := by
        have : L = L.take i ++ L[i] :: L.drop (i + 1) := by rw [← List.drop_eq_getElem_cons hlt, List.take_append_drop]
        have h2 : bulk L = bulk (L.take i ++ L[i] :: L.drop (i + 1)) := by rw [← this]
        rw [bulk_append] at h2
        simp only [bulk] at h2
        omega
      omega)
    rw [dec_t (show (i : Int) < (N : Int) by omega), cond_true, inb_t (show (0 : Int) ≤ (i : Int) by omega) (show (i : Int) < (N : Int) by omega), cond_true, Int.toNat_natCast, beq_nil, hx, he, cond_false]
    refine Eq.trans hl ?_
    rw [i64_id (by omega) (by omega)]
    exact all_words A b1 m g b2 N hN row L hL hg hb k0 k1 d (i + 1) fuel (by omega) (by omega)
theorem main {α : Type} (a_1 : ByteArray) (a_2 : Int) (a_3 : Bool) (a_4 : Nat) (a_5 : Nat → Nat → PV) (h_1 : PvOk (.val (.string a_1))) (h_2 : PvOk (.val (.int .u32 a_2))) (h_3 : PvOk (.sl a_3 (.str .nil) 1 a_4 a_5)) (k_3 : RowK (.str .nil) a_4 a_5) (k0 k1 : Option α) : law21_WordsBack a_1 a_2 a_3 a_4 a_5 k0 k1 = k0 := by
  unfold law21_WordsBack law21_WordsBack_T
  by_cases hs : (a_1.size : Int) > 3000
  · rw [dec_t hs, cond_true]
  rw [dec_f hs, cond_false]
  obtain ⟨b, hf, hb⟩ := fair h_3
  rw [hf]
  cases b with
  | false => rfl
  | true =>
  obtain ⟨hn, hl⟩ := hb rfl
  have hsz : a_1.size ≤ 3000 := by omega
  have hL := TL.of a_4 a_5
  have hbk := bulk_row hl
  have hlen : ((List.range a_4).map fun j => (textOf (a_5 j 0)).data.toList).length ≤ 1000000 := by simp; omega
  generalize ((List.range a_4).map fun j => (textOf (a_5 j 0)).data.toList) = L at hL hbk hlen
  -- the line's words
  have wb := words_bulk a_1.data.toList
  rw [bl_size] at wb
  have wl := bulk_len (words a_1.data.toList)
  have wg := words_good a_1.data.toList
  obtain ⟨nl1, n1, f1, t1, c1⟩ := cutP a_1 (by omega) (fun _ _ => .val undef)
  obtain ⟨nl2, n2, f2, j1, j2, j3⟩ := joinP (b := nl1) t1 (by omega) (by omega) (fun _ _ => .val undef)
  rw [wg.ne] at j2
  have jl := joinW_len (words a_1.data.toList)
  have js : (joinS n2 f2 ⟨#[32]⟩).size ≤ 3001 := by rw [j2]; show (joinW (words a_1.data.toList)).length ≤ 3001; omega
  obtain ⟨nl3, n3, f3, t3, c3⟩ := cutP (joinS n2 f2 ⟨#[32]⟩) (by omega) (fun _ _ => .val undef)
  rw [show (joinS n2 f2 ⟨#[32]⟩).data.toList = joinW (words a_1.data.toList) by rw [j2], words_join _ wg] at t3
  -- the number
  obtain ⟨u0, u1⟩ := pv_u32 h_2
  have hw2 : IntKind.i64.wrap a_2 = a_2 := i64_id (by omega) (by omega)
  have ho : okI a_2 = true := okI_spec.2 ⟨by omega, by omega⟩
  have hit : (itoaS a_2).data.toList = Lib.decDigits a_2.toNat := by
    rw [itoaS_eq ho]
    show Lib.itoa a_2 = _
    unfold Lib.itoa
    rw [if_neg (by omega)]
  have hnum : numOk (itoaS a_2) = true := numOk_spec.2 ⟨a_2.toNat, by omega, hit⟩
  have hnv : numI (itoaS a_2) = a_2 := by
    unfold numI
    rw [hnum, cond_true, numV_spec hit]
    omega
  have hisz : (itoaS a_2).size ≤ 281474976710656 := by
    have := dec_len 9 a_2.toNat (by omega)
    rw [← hit, bl_size] at this
    omega
  -- the parts put together
  obtain ⟨nl4, n4, f4, p1, p2, p3⟩ := joinP (b := a_3) hL hlen (by omega) (fun _ _ => .val undef)
  have pl := joinW_len (ne L)
  have pb := bulk_ne L
  have ps : (joinS n4 f4 ⟨#[32]⟩).size ≤ 16000 := by rw [p2]; show (joinW (ne L)).length ≤ 16000; omega
  obtain ⟨nl5, n5, f5, t5, c5⟩ := cutP (joinS n4 f4 ⟨#[32]⟩) (by omega) (fun _ _ => .val undef)
  have b5 := words_bulk (joinS n4 f4 ⟨#[32]⟩).data.toList
  rw [bl_size] at b5
  have l5 := bulk_len (words (joinS n4 f4 ⟨#[32]⟩).data.toList)
  obtain ⟨nl6, n6, f6, q1, q2, q3⟩ := joinP (b := nl5) t5 (by omega) (by omega) (fun _ _ => .val undef)
  have xs : (joinS n4 f4 (⟨#[32]⟩ : ByteArray) ++ (⟨#[32, 32]⟩ : ByteArray)).size ≤ 16002 := by
    rw [ByteArray.size_append]
    show _ + 2 ≤ _
    omega
  obtain ⟨nl7, n7, f7, t7, c7⟩ := cutP (joinS n4 f4 (⟨#[32]⟩ : ByteArray) ++ (⟨#[32, 32]⟩ : ByteArray)) (by omega) (fun _ _ => .val undef)
  have e7t : (joinS n4 f4 (⟨#[32]⟩ : ByteArray) ++ (⟨#[32, 32]⟩ : ByteArray)).data.toList = (joinS n4 f4 (⟨#[32]⟩ : ByteArray)).data.toList ++ [32, 32] := by rw [bl_append]
  rw [e7t, words_tail] at t7
  obtain ⟨nl8, n8, f8, r1, r2, r3⟩ := joinP (b := nl7) t7 (by omega) (by omega) (fun _ _ => .val undef)
  have c7' : ∀ (α : Type) (k0 : Bool → Nat → (Nat → Nat → PV) → Option α), words_Cut_L0 ((e7 n4 f4 : Nat) : Int) (fun _ _ => .val undef) (e7 n4 f4) (e6 n4 f4) k0 = k0 nl7 n7 f7 := c7
  have he8 : e8 n6 f6 n8 f8 = true := by
    unfold e8
    rw [q2, r2, beq_self_eq_true]
  have aw : ∀ (kk0 : Option α) (kk1 : Int → Bool → Nat → (Nat → Nat → PV) → Option α), law21_WordsBack_L0 a_2 a_3 a_4 a_5 nl1 n1 f1 kk0 kk1 = kk1 a_2 a_3 a_4 a_5 := fun kk0 kk1 =>
    all_words a_2 a_3 a_4 a_5 nl1 n1 (by rw [← t1.1]; omega) f1 _ t1 wg (by omega) kk0 kk1 n1 0 18446744073709551616 (by omega) (by rw [← t1.1]; omega)
  rw [show (!true) = false from rfl, cond_false, splitOk_of (by omega), cond_true, c1, j3, j1, cond_true, splitOk_of (by omega), cond_true, c3, texts t3 t1 (by omega), aw, hw2, ho, cond_true, ble_true hisz, cond_true, hnum, cond_true, hnv, beq_self_eq_true, cond_true,
    p3, p1, cond_true, splitOk_of (by omega), cond_true, c5, q3, q1, cond_true, p3, p1, cond_true, ble_true (by show (joinS n4 f4 ⟨#[32]⟩).size + 2 ≤ _; omega), cond_true, splitOk_of (by omega), cond_true, c7', r3, r1, cond_true, he8, cond_true]
end Go.Proofs.YtijabmpcicddbaaDoor.WordsBack

/- FdbMoves: what the code comes to answers true. -/
import Derived.Test.YtampnnhdgnhjaaaFdbMovesL
set_option linter.unusedVariables false
set_option linter.unusedSimpArgs false
set_option maxHeartbeats 1000000
namespace Go.Proofs.Ytampnnhdgnhjaaa.FdbMoves
open Go.Ve
theorem two_learned (m a b p q : Int) : (learnL (learnL [] ⟨m, a, p, 0⟩) ⟨m, b, q, 0⟩).length = if a = b then 1 else 2 := by
  show (learnL [⟨m, a, p, 0⟩] ⟨m, b, q, 0⟩).length = _
  unfold learnL
  cases hh : hasK [⟨m, a, p, 0⟩] b m with
  | true =>
    obtain ⟨e, he, hk⟩ := hasK_iff.1 hh
    rw [List.mem_singleton] at he
    subst he
    rw [if_pos hk.1, cond_true, List.length_set]
    rfl
  | false =>
    have := hasK_ff.1 hh _ (List.mem_singleton.2 rfl)
    rw [if_neg (fun h => this ⟨h, rfl⟩)]
    rw [cond_false]
    exact length_putAt
theorem main {α : Type} (a_1 : Int) (a_2 : Int) (a_3 : Int) (a_4 : Int) (a_5 : Int) (h_1 : PvOk (.val (.int .u16 a_1))) (h_2 : PvOk (.val (.int .u8 a_2))) (h_3 : PvOk (.val (.int .u8 a_3))) (h_4 : PvOk (.val (.int .u8 a_4))) (h_5 : PvOk (.val (.int .u8 a_5))) (k0 k1 : Option α) : law18_FdbMoves a_1 a_2 a_3 a_4 a_5 k0 k1 = k1 := by
  have r1 := pv_u16 h_1
  have r2 := pv_u8 h_2
  have r3 := pv_u8 h_3
  have r4 := pv_u8 h_4
  have r5 := pv_u8 h_5
  have tm : ∀ x y : Int, 0 ≤ x → 0 < y → x.tmod y = x % y := fun x y hx hy => by rw [Int.tmod_eq_emod_of_nonneg hx]
  obtain ⟨m, hm, m0, m1⟩ : ∃ m, IntKind.u64.wrap ((IntKind.u64.wrap a_1) + 1) = m ∧ 0 < m ∧ m < 1099511627776 := ⟨_, rfl, by rw [u64_id (n := a_1) (by omega) (by omega), u64_id (by omega) (by omega)]; omega, by rw [u64_id (n := a_1) (by omega) (by omega), u64_id (by omega) (by omega)]; omega⟩
  obtain ⟨a, ha, a0, a1⟩ : ∃ a, IntKind.i64.wrap (1 + ((IntKind.i64.wrap a_4).tmod 9)) = a ∧ 1 ≤ a ∧ a < 4095 := ⟨_, rfl, by rw [i64_id (n := a_4) (by omega) (by omega), tm _ _ (by omega) (by decide), i64_id (by omega) (by omega)]; omega, by rw [i64_id (n := a_4) (by omega) (by omega), tm _ _ (by omega) (by decide), i64_id (by omega) (by omega)]; omega⟩
  obtain ⟨b, hb, b0, b1⟩ : ∃ b, IntKind.i64.wrap (1 + ((IntKind.i64.wrap a_5).tmod 9)) = b ∧ 1 ≤ b ∧ b < 4095 := ⟨_, rfl, by rw [i64_id (n := a_5) (by omega) (by omega), tm _ _ (by omega) (by decide), i64_id (by omega) (by omega)]; omega, by rw [i64_id (n := a_5) (by omega) (by omega), tm _ _ (by omega) (by decide), i64_id (by omega) (by omega)]; omega⟩
  obtain ⟨p, hp, p0, p1⟩ : ∃ p, ((IntKind.i64.wrap a_2).tmod 8) = p ∧ 0 ≤ p ∧ p < 8 := ⟨_, rfl, by rw [i64_id (n := a_2) (by omega) (by omega), tm _ _ (by omega) (by decide)]; omega, by rw [i64_id (n := a_2) (by omega) (by omega), tm _ _ (by omega) (by decide)]; omega⟩
  obtain ⟨q, hq, q0, q1⟩ : ∃ q, ((IntKind.i64.wrap a_3).tmod 8) = q ∧ 0 ≤ q ∧ q < 8 := ⟨_, rfl, by rw [i64_id (n := a_3) (by omega) (by omega), tm _ _ (by omega) (by decide)]; omega, by rw [i64_id (n := a_3) (by omega) (by omega), tm _ _ (by omega) (by decide)]; omega⟩
  have he15 : e15 a_4 a_5 = (a == b) := by unfold e15; rw [ha, hb]
  obtain ⟨nl1, n1, f1, E1, z1, hl1⟩ := learn_yes (EL.nil (fun _ _ => .val undef)) List.Pairwise.nil (by decide) (c := 0) (M := []) (by omega) (gd_small m0 m1 a0 a1 p0 p1) rfl true (fun _ => rfl)
  have s1 : Srt (learnL [] ⟨m, a, p, 0⟩) := srt_learn List.Pairwise.nil _
  have l1 : (learnL [] ⟨m, a, p, 0⟩).length ≤ 32 := length_learn (by decide) _
  have n1' := E1.n
  have s2 : Srt (learnL (learnL [] ⟨m, a, p, 0⟩) ⟨m, b, q, 0⟩) := srt_learn s1 _
  have l2 : (learnL (learnL [] ⟨m, a, p, 0⟩) ⟨m, b, q, 0⟩).length ≤ 32 := length_learn l1 _
  have fb : findL (learnL (learnL [] ⟨m, a, p, 0⟩) ⟨m, b, q, 0⟩) b m = some ⟨m, b, q, 0⟩ := (findL_some s2).2 ⟨mem_learn_self _ s1 _, rfl, rfl⟩
  have fa : findL (learnL (learnL [] ⟨m, a, p, 0⟩) ⟨m, b, q, 0⟩) a m = some (if a = b then ⟨m, b, q, 0⟩ else ⟨m, a, p, 0⟩) := by
    by_cases hab : a = b
    · rw [if_pos hab, hab]; exact hab ▸ fb
    · rw [if_neg hab]
      refine (findL_some s2).2 ⟨?_, rfl, rfl⟩
      rcases mem_learn_old s1 (e := ⟨m, b, q, 0⟩) (mem_learn_self [] List.Pairwise.nil ⟨m, a, p, 0⟩) (fun h => hab h.1) with h | h
      · exact h
      · have : (learnL [] ⟨m, a, p, 0⟩).length = 1 := rfl
        omega
  have hM : ∀ v : Int, mhas ([] : MapL) [.val (.int .i64 v), .val (.int .u64 m)] = false := fun _ => rfl
  unfold law18_FdbMoves law18_FdbMoves_T
  simp only [hm, ha, hb, hp, hq, he15]
  have key : ∀ (nl : Bool) (n2 : Nat) (f2 : Nat → Nat → PV), EL n2 f2 (learnL (learnL [] ⟨m, a, p, 0⟩) ⟨m, b, q, 0⟩) → (nl = true → n2 = 0) → ∃ nl' f3, EL n2 f3 (learnL (learnL [] ⟨m, a, p, 0⟩) ⟨m, b, q, 0⟩) ∧ ∀ {α : Type} (k0 : Bool → Nat → (Nat → Nat → PV) → Bool → Nat → (Nat → Nat → PV) → Option α), slices_Clone_fdb_Entry nl n2 f2 k0 = k0 nl n2 f2 nl' n2 f3 := fun nl n2 f2 E h => clone_eq E (by have := E.n; omega) nl h
  rcases hl1 with hl1 | hl1
  · obtain ⟨nl2, n2, f2, E2, z2, hl2⟩ := learn_yes E1 s1 (by omega) (c := 0) (M := []) (by omega) (gd_small m0 m1 b0 b1 q0 q1) rfl nl1 z1
    have n2' := E2.n
    have n2le : n2 ≤ 32 := by rw [← n2']; exact l2
    rw [two_learned] at n2'
    rw [hl1]
    rcases hl2 with hl2 | hl2
    · obtain ⟨nl3, f3, E3, hc⟩ := key nl2 n2 f2 E2 z2
      rw [hl2, look_some E2 s2 (by omega) (hM a) nl2 fa, look_some E2 s2 (by omega) (hM b) nl2 fb]
      by_cases hab : a = b
      · rw [if_pos hab] at n2' ⊢
        subst n2'
        simp only [hab, beq_self_eq_true, cond_true, hc]
        rfl
      · rw [if_neg hab] at n2' ⊢
        subst n2'
        have : (a == b) = false := by simpa using hab
        simp only [this, beq_self_eq_true, cond_true, cond_false, hc]
        rfl
    · obtain ⟨nl3, f3, E3, hc⟩ := key false n2 f2 E2 (fun h => nomatch h)
      rw [hl2, look_some E2 s2 (by omega) (hM a) false fa, look_some E2 s2 (by omega) (hM b) false fb]
      by_cases hab : a = b
      · rw [if_pos hab] at n2' ⊢
        subst n2'
        simp only [hab, beq_self_eq_true, cond_true, hc]
        rfl
      · rw [if_neg hab] at n2' ⊢
        subst n2'
        have : (a == b) = false := by simpa using hab
        simp only [this, beq_self_eq_true, cond_true, cond_false, hc]
        rfl
  · obtain ⟨nl2, n2, f2, E2, z2, hl2⟩ := learn_yes E1 s1 (by omega) (c := 0) (M := []) (by omega) (gd_small m0 m1 b0 b1 q0 q1) rfl false (fun h => nomatch h)
    have n2' := E2.n
    have n2le : n2 ≤ 32 := by rw [← n2']; exact l2
    rw [two_learned] at n2'
    rw [hl1]
    rcases hl2 with hl2 | hl2
    · obtain ⟨nl3, f3, E3, hc⟩ := key nl2 n2 f2 E2 z2
      rw [hl2, look_some E2 s2 (by omega) (hM a) nl2 fa, look_some E2 s2 (by omega) (hM b) nl2 fb]
      by_cases hab : a = b
      · rw [if_pos hab] at n2' ⊢
        subst n2'
        simp only [hab, beq_self_eq_true, cond_true, hc]
        rfl
      · rw [if_neg hab] at n2' ⊢
        subst n2'
        have : (a == b) = false := by simpa using hab
        simp only [this, beq_self_eq_true, cond_true, cond_false, hc]
        rfl
    · obtain ⟨nl3, f3, E3, hc⟩ := key false n2 f2 E2 (fun h => nomatch h)
      rw [hl2, look_some E2 s2 (by omega) (hM a) false fa, look_some E2 s2 (by omega) (hM b) false fb]
      by_cases hab : a = b
      · rw [if_pos hab] at n2' ⊢
        subst n2'
        simp only [hab, beq_self_eq_true, cond_true, hc]
        rfl
      · rw [if_neg hab] at n2' ⊢
        subst n2'
        have : (a == b) = false := by simpa using hab
        simp only [this, beq_self_eq_true, cond_true, cond_false, hc]
        rfl
end Go.Proofs.Ytampnnhdgnhjaaa.FdbMoves

/- FdbAges: what the code comes to answers true. -/
import Derived.Test.YtampnnhdgnhjaaaFdbAgesL
set_option linter.unusedVariables false
set_option linter.unusedSimpArgs false
set_option maxHeartbeats 1000000
namespace Go.Proofs.Ytampnnhdgnhjaaa.FdbAges
open Go.Ve
theorem loop0 (m p : Int) {k : Nat} (hk : k ≤ 1000) {c : Int} (hc : c ≤ 1000) {L : List En} (hT : TabOk c L) (M : MapL) (nl : Bool) : ∀ (d i fuel n : Nat) (f : Nat → Nat → PV), i + d = k → d < fuel → EL n f (aged c L i) → (nl = true → n = 0) → ∃ n' f', EL n' f' (aged c L k) ∧ (nl = true → n' = 0) ∧
    ∀ {α : Type} (k0 : Int → Int → Int → Int → MapL → Bool → Nat → (Nat → Nat → PV) → Option α), law18_FdbAges_L0_l0 k0 fuel m p (k : Int) (i : Int) (c + (i : Int)) M nl n f = k0 m p (k : Int) (c + (k : Int)) M nl n' f'
  | 0, i, fuel + 1, n, f, hd, hf, hE, hz => by
    obtain rfl : i = k := by omega
    refine ⟨n, f, hE, hz, fun {α} k0 => ?_⟩
    show law18_FdbAges_L0_s0 _ _ k0 m p (i : Int) (i : Int) _ M nl n f = _
    unfold law18_FdbAges_L0_s0
    rw [dec_f (Int.lt_irrefl _), cond_false]
  | d + 1, i, fuel + 1, n, f, hd, hf, hE, hz => by
    obtain ⟨n1, f1, hE1, hz1, ht⟩ := tick_one hE (aged_ok hT (by omega)) nl M hz
    rw [tick_aged (by omega)] at hE1 ht
    obtain ⟨n', f', hE', hz', h⟩ := loop0 m p hk hc hT M nl d (i + 1) fuel n1 f1 (by omega) (by omega) hE1 hz1
    refine ⟨n', f', hE', hz', fun {α} k0 => ?_⟩
    show law18_FdbAges_L0_s0 _ _ k0 m p (k : Int) (i : Int) _ M nl n f = _
    unfold law18_FdbAges_L0_s0
    rw [dec_t (by omega), cond_true]
    refine Eq.trans (ht _) ?_
    have e : IntKind.i64.wrap ((i : Int) + 1) = ((i + 1 : Nat) : Int) := by rw [i64_id (by omega) (by omega)]; rfl
    show law18_FdbAges_L0_l0 k0 fuel m p (k : Int) (IntKind.i64.wrap ((i : Int) + 1)) (c + ((i + 1 : Nat) : Int)) M nl n1 f1 = _
    rw [e]
    exact h k0
theorem loop2 (m : Int) {c : Int} (hc0 : 0 ≤ c) (hc : c ≤ 1000) {L : List En} (hT : TabOk c L) (M : MapL) (nl : Bool) : ∀ (d i fuel n : Nat) (f : Nat → Nat → PV), i + d = 600 → d < fuel → EL n f (aged c L i) → (nl = true → n = 0) → ∃ n' f', EL n' f' (aged c L 600) ∧ (nl = true → n' = 0) ∧
    ∀ {α : Type} (k0 : Int → Int → MapL → Bool → Nat → (Nat → Nat → PV) → Option α), law18_FdbAges_L2_l0 k0 fuel m (i : Int) (c + (i : Int)) M nl n f = k0 m (c + 600) M nl n' f'
  | 0, i, fuel + 1, n, f, hd, hf, hE, hz => by
    obtain rfl : i = 600 := by omega
    refine ⟨n, f, hE, hz, fun {α} k0 => ?_⟩
    show law18_FdbAges_L2_s0 _ _ k0 m _ _ M nl n f = _
    unfold law18_FdbAges_L2_s0
    rw [dec_f (by omega), cond_false]
    rfl
  | d + 1, i, fuel + 1, n, f, hd, hf, hE, hz => by
    obtain ⟨n1, f1, hE1, hz1, ht⟩ := tick_one hE (aged_ok hT (by omega)) nl M hz
    rw [tick_aged (by omega)] at hE1 ht
    obtain ⟨n', f', hE', hz', h⟩ := loop2 m hc0 hc hT M nl d (i + 1) fuel n1 f1 (by omega) (by omega) hE1 hz1
    refine ⟨n', f', hE', hz', fun {α} k0 => ?_⟩
    show law18_FdbAges_L2_s0 _ _ k0 m (i : Int) _ M nl n f = _
    unfold law18_FdbAges_L2_s0
    rw [dec_t (by omega), cond_true]
    refine Eq.trans (ht _) ?_
    have e : IntKind.i64.wrap ((i : Int) + 1) = ((i + 1 : Nat) : Int) := by rw [i64_id (by omega) (by omega)]; rfl
    show law18_FdbAges_L2_l0 k0 fuel m (IntKind.i64.wrap ((i : Int) + 1)) (c + ((i + 1 : Nat) : Int)) M nl n1 f1 = _
    rw [e]
    exact h k0
/-- the end: a static stays, all else goes -/
theorem gone {c : Int} {L : List En} (hT : TabOk c L) : aged c L 600 = [] := by
  show ageL (c + ((599 + 1 : Nat) : Int)) L = []
  unfold ageL
  rw [List.filter_eq_nil_iff]
  intro e he
  have := hT.t e he
  rw [decide_eq_true_eq]
  omega
def M1 (m : Int) : MapL := [([.val (.int .i64 7), .val (.int .u64 m)], [.val (.int .i64 3)])]
theorem M1_eq (m : Int) : statL (rowOf 3 [.val (.int .u64 m), .val (.int .i64 7), .val (.int .i64 3)]) 1 [] = M1 m := rfl
theorem M1_has (m v : Int) : mhas (M1 m) [.val (.int .i64 v), .val (.int .u64 m)] = decide (v = 7) := by
  show (keyEq _ _ || false) = _
  rw [keyEq2, dec_t (rfl : m = m), Bool.and_true, Bool.or_false]
theorem M1_cell (m : Int) : mcell (M1 m) [.val (.int .i64 7), .val (.int .u64 m)] 0 = .val (.int .i64 3) := by
  show (bif keyEq _ _ then _ else _ : List PV).getD 0 _ = _
  rw [keyEq2, dec_t (rfl : m = m), dec_t (rfl : (7 : Int) = 7)]
  rfl
theorem main {α : Type} (a_1 : Int) (a_2 : Int) (a_3 : Int) (h_1 : PvOk (.val (.int .u64 a_1))) (h_2 : PvOk (.val (.int .u16 a_2))) (h_3 : PvOk (.val (.int .u8 a_3))) (k0 k1 : Option α) : law18_FdbAges a_1 a_2 a_3 k0 k1 = k0 := by
  have r1 := pv_u64 h_1
  have r2 := pv_u16 h_2
  have r3 := pv_u8 h_3
  have tm : ∀ x y : Int, 0 ≤ x → x.tmod y = x % y := fun x y hx => by rw [Int.tmod_eq_emod_of_nonneg hx]
  obtain ⟨m, hm, m0, m1⟩ : ∃ m, IntKind.u64.wrap ((a_1.tmod 1099511627776) + 1) = m ∧ 0 < m ∧ m ≤ 1099511627776 := ⟨_, rfl, by rw [tm _ _ (by omega), u64_id (by omega) (by omega)]; omega, by rw [tm _ _ (by omega), u64_id (by omega) (by omega)]; omega⟩
  obtain ⟨p, hp, p0, p1⟩ : ∃ p, ((IntKind.i64.wrap a_3).tmod 8) = p ∧ 0 ≤ p ∧ p < 8 := ⟨_, rfl, by rw [i64_id (n := a_3) (by omega) (by omega), tm _ _ (by omega)]; omega, by rw [i64_id (n := a_3) (by omega) (by omega), tm _ _ (by omega)]; omega⟩
  obtain ⟨k, hk, k1'⟩ : ∃ k : Nat, ((IntKind.i64.wrap a_2).tmod 400) = (k : Int) ∧ k < 400 := ⟨(a_2 % 400).toNat, by rw [i64_id (n := a_2) (by omega) (by omega), tm _ _ (by omega)]; omega, by omega⟩
  unfold law18_FdbAges law18_FdbAges_T
  simp only [hm, hp, hk, M1_eq]
  have e40 : shrI .u64 m 40 = m / 1099511627776 := shr_div .u64 m 40 (by decide)
  rw [e40]
  by_cases hbig : m = 1099511627776
  · rw [hbig]; rfl
  have e41 : (m / 1099511627776 != 0) = false := by rw [show m / 1099511627776 = 0 by omega]; rfl
  rw [e41, cond_false]
  obtain ⟨nl1, n1, f1, E1, z1, hl1⟩ := learn_one (EL.nil (fun _ _ => .val undef)) List.Pairwise.nil (by decide) (c := 0) (M := []) (by omega) (gd_small m0 (by omega) (show (1 : Int) ≤ 7 by decide) (by decide) p0 p1) rfl true (fun _ => rfl)
  have T1 : TabOk 0 (learnL [] ⟨m, 7, p, 0⟩) := TabOk.nil.learn rfl
  refine Eq.trans (hl1 _ _) ?_
  obtain ⟨n2, f2, E2, z2, hl2⟩ := loop0 m p (k := k) (by omega) (c := 0) (by decide) T1 [] nl1 k 0 18446744073709551616 n1 f1 (by omega) (by omega) E1 z1
  unfold law18_FdbAges_L0
  refine Eq.trans (hl2 _) ?_
  have T2 := aged_ok T1 (j := k) (by omega)
  have mem1 : ∀ e ∈ aged 0 (learnL [] ⟨m, 7, p, 0⟩) k, e = ⟨m, 7, p, 0⟩ ∧ k < 300 := by
    intro e he
    cases k with
    | zero =>
      rcases mem_learn (show e ∈ learnL [] ⟨m, 7, p, 0⟩ from he) with h | h
      · exact ⟨h, by omega⟩
      · exact absurd h List.not_mem_nil
    | succ j =>
      have he' := List.mem_filter.1 (show e ∈ ageL (0 + ((j + 1 : Nat) : Int)) (learnL [] ⟨m, 7, p, 0⟩) from he)
      rcases mem_learn he'.1 with h | h
      · have := of_decide_eq_true he'.2
        rw [h] at this
        refine ⟨h, ?_⟩
        have : 0 + ((j + 1 : Nat) : Int) - 0 < 300 := this
        omega
      · exact absurd h List.not_mem_nil
  obtain ⟨c, hc⟩ : ∃ c : Int, 0 + (k : Int) = c := ⟨_, rfl⟩
  rw [hc] at T2 ⊢
  -- what stands behind the first ticks
  have hM0 : mhas ([] : MapL) [.val (.int .i64 7), .val (.int .u64 m)] = false := rfl
  have n2le : n2 ≤ 32 := by rw [← E2.n]; exact T2.n
  have hs7 : mhas (M1 m) [.val (.int .i64 7), .val (.int .u64 m)] = true := by rw [M1_has]; rfl
  have hs8 : mhas (M1 m) [.val (.int .i64 8), .val (.int .u64 m)] = false := by rw [M1_has]; rfl
  obtain ⟨nl3, n3, f3, E3, z3, hl3⟩ := learn_one E2 T2.s n2le (c := c) (M := M1 m) (by omega) (gd_small m0 (by omega) (show (1 : Int) ≤ 8 by decide) (by decide) (show (0 : Int) ≤ 5 by decide) (by decide)) hs8 nl1 z2
  have T3 : TabOk c (learnL (aged 0 (learnL [] ⟨m, 7, p, 0⟩) k) ⟨m, 8, 5, c⟩) := T2.learn rfl
  obtain ⟨n4, f4, E4, z4, hl4⟩ := loop2 m (c := c) (by omega) (by omega) T3 (M1 m) nl3 600 0 18446744073709551616 n3 f3 (by omega) (by omega) E3 z3
  rw [gone T3] at E4
  have n4' := E4.n
  subst n4'
  obtain ⟨nl5, f5, E5, hcl⟩ := clone_eq E4 (by decide) nl3 (fun _ => rfl)
  have c0 : c + ((0 : Nat) : Int) = c := by omega
  rw [c0] at hl4
  by_cases h300 : k < 300
  · have hin : (⟨m, 7, p, 0⟩ : En) ∈ aged 0 (learnL [] ⟨m, 7, p, 0⟩) k := by
      have h0 := mem_learn_self [] List.Pairwise.nil ⟨m, 7, p, 0⟩
      cases k with
      | zero => exact h0
      | succ j => exact List.mem_filter.2 ⟨h0, decide_eq_true (by show 0 + ((j + 1 : Nat) : Int) - 0 < 300; omega)⟩
    have hf : findL (aged 0 (learnL [] ⟨m, 7, p, 0⟩) k) 7 m = some ⟨m, 7, p, 0⟩ := (findL_some T2.s).2 ⟨hin, rfl, rfl⟩
    refine Eq.trans (look_some E2 T2.s (by omega) hM0 nl1 hf _ _) ?_
    have d3 : decide ((k : Int) < 300) = true := dec_t (by omega)
    have pp : (p != p) = false := bne_self_eq_false p
    show (bif !(true == (decide ((k : Int) < 300))) then _ else bif (p != p) then _ else _) = _
    rw [d3, pp, show (!(true == true)) = false from rfl, cond_false, cond_false]
    show fdb_Table_Learn m 7 5 c (M1 m) nl1 n2 f2 _ _ _ = _
    refine Eq.trans (learn_no (by omega) (.inr hs7) nl1 n2 f2 _ _ _) ?_
    refine Eq.trans (hl3 _ _) ?_
    unfold law18_FdbAges_L2
    refine Eq.trans (hl4 _) ?_
    refine Eq.trans (look_static hs7 nl3 0 f4 _ _) ?_
    refine Eq.trans (look_none E4 List.Pairwise.nil (by decide) hs8 nl3 rfl _ _) ?_
    rw [M1_cell]
    show (bif ((3 : Int) == 3) then _ else _) = _
    refine Eq.trans (hcl _) ?_
    rfl
  · have hf : findL (aged 0 (learnL [] ⟨m, 7, p, 0⟩) k) 7 m = none := findL_none.2 (hasK_ff.2 fun e he => absurd (mem1 e he).2 h300)
    refine Eq.trans (look_none E2 T2.s (by omega) hM0 nl1 hf _ _) ?_
    have d3 : decide ((k : Int) < 300) = false := dec_f (by omega)
    show (bif !(false == (decide ((k : Int) < 300))) then _ else _) = _
    rw [d3, show (!(false == false)) = false from rfl, cond_false]
    show fdb_Table_Learn m 7 5 c (M1 m) nl1 n2 f2 _ _ _ = _
    refine Eq.trans (learn_no (by omega) (.inr hs7) nl1 n2 f2 _ _ _) ?_
    refine Eq.trans (hl3 _ _) ?_
    unfold law18_FdbAges_L2
    refine Eq.trans (hl4 _) ?_
    refine Eq.trans (look_static hs7 nl3 0 f4 _ _) ?_
    refine Eq.trans (look_none E4 List.Pairwise.nil (by decide) hs8 nl3 rfl _ _) ?_
    rw [M1_cell]
    show (bif ((3 : Int) == 3) then _ else _) = _
    refine Eq.trans (hcl _) ?_
    rfl
end Go.Proofs.Ytampnnhdgnhjaaa.FdbAges

/- VlanFirst: what the code comes to answers true. -/
import Derived.Test.YtijabmpcicddbaaVlanFirstL
set_option linter.unusedVariables false
set_option linter.unusedSimpArgs false
set_option maxHeartbeats 1000000
namespace Go.Proofs.Ytijabmpcicddbaa.VlanFirst
open Go.Ve
/-- the mask of so many ports -/
def msk (i : Nat) : Int := [0, 1, 3, 7, 15, 31, 63, 127, 255].getD i 0
theorem msk_or : ∀ i, i < 8 → bits .or .u8 (msk i) (shlI .u8 1 (i : Int)) = msk (i + 1) := by decide
theorem msk_bit : ∀ N, N < 9 → ∀ j, j < 8 → bitm (msk N) ((j : Nat) : Int) = decide (j < N) := by decide
theorem no_tag : ∀ j, j < 8 → (tagv 0 ((j : Nat) : Int) == 1) = false := by decide
/-- what the first configuration's ports are -/
def RowsF (n : Nat) (f : Nat → Nat → PV) : Prop := ∀ j, j < n → f j 0 = .val (.bool true) ∧ f j 2 = .val (.int .i64 1)
theorem RowsF.one : RowsF 1 (rowOf 3 [.val (.bool true), .val (.int .u32 20000), .val (.int .i64 1)]) := fun j h => by
  obtain rfl : j = 0 := by omega
  exact ⟨rfl, rfl⟩
theorem RowsF.snoc {n : Nat} {f : Nat → Nat → PV} (h : RowsF n f) : RowsF (n + 1) (catf n f (rowOf 3 [.val (.bool true), .val (.int .u32 20000), .val (.int .i64 1)])) := fun j hj => by
  by_cases hl : j < n
  · rw [catf_lo hl, catf_lo hl]; exact h j hl
  · obtain rfl : j = n := by omega
    have e := fun c => catf_hi j f (rowOf 3 [.val (.bool true), .val (.int .u32 20000), .val (.int .i64 1)]) 0 c
    simp only [Nat.add_zero] at e
    rw [e, e]
    exact ⟨rfl, rfl⟩
theorem first_loop {N : Nat} (hN : N ≤ 8) (a b c : Nat → Nat → PV) : ∀ (d i fuel : Nat) (f : Nat → Nat → PV), i + d = N → d < fuel → 1 ≤ i → RowsF i f → ∃ f', RowsF N f' ∧ ∀ {α : Type} (k0 : (Nat → Nat → PV) → (Nat → Nat → PV) → (Nat → Nat → PV) → Option α) (k1 : Int → (Nat → Nat → PV) → (Nat → Nat → PV) → (Nat → Nat → PV) → Nat → (Nat → Nat → PV) → Option α),
    ref05_First_L0_l1 k0 k1 fuel (N : Int) (i : Int) (msk i) a b c i f = k1 (msk N) a b c N f'
  | 0, i, fuel + 1, f, hd, hf, hi, hr => by
    obtain rfl : i = N := by omega
    refine ⟨f, hr, fun {α} k0 k1 => ?_⟩
    show ref05_First_L0_s1 _ k0 k1 (i : Int) (i : Int) (msk i) a b c i f = _
    unfold ref05_First_L0_s1
    rw [dec_f (Int.lt_irrefl _), cond_false]
  | d + 1, i, fuel + 1, f, hd, hf, hi, hr => by
    obtain ⟨f', h', e'⟩ := first_loop hN a b c d (i + 1) fuel _ (by omega) (by omega) (by omega) hr.snoc
    refine ⟨f', h', fun {α} k0 k1 => ?_⟩
    show ref05_First_L0_s1 _ k0 k1 (N : Int) (i : Int) (msk i) a b c i f = _
    unfold ref05_First_L0_s1
    rw [dec_t (by omega), cond_true, ble_true (show (i + 1) * 16 ≤ bound by unfold bound; omega), cond_true, u64_id (by omega) (by omega), dec_f (by omega), cond_false, msk_or i (by omega), i64_id (by omega) (by omega)]
    exact e' k0 k1
theorem l0_succ {α : Type} (fuel : Nat) (k0 : (Nat → Nat → PV) → (Nat → Nat → PV) → (Nat → Nat → PV) → Option α) (k1 : Int → (Nat → Nat → PV) → (Nat → Nat → PV) → (Nat → Nat → PV) → Nat → (Nat → Nat → PV) → Option α) (n : Int) (a b c : Nat → Nat → PV) : ref05_First_L0_l0 k0 k1 (fuel + 1) n a b c = ref05_First_L0_s0 (ref05_First_L0_l1 k0 k1 fuel) k0 k1 n a b c := rfl
theorem first_eq {N : Nat} (h1 : 1 ≤ N) (hN : N ≤ 8) : ∃ f, RowsF N f ∧ ∀ {α : Type} (k0 : (Nat → Nat → PV) → (Nat → Nat → PV) → (Nat → Nat → PV) → Option α) (k1 : Bool → Nat → (Nat → Nat → PV) → (Nat → Nat → PV) → (Nat → Nat → PV) → Option α),
    ref05_First (N : Int) k0 k1 = k1 false N f (rowOf 3 [.val (.int .i64 1), .val (.int .u8 (msk N)), .val (.int .u8 0)]) (fun _ _ => .val undef) := by
  obtain ⟨f', h', e'⟩ := first_loop hN (fun _ _ => .val undef) (fun _ _ => .val undef) (fun _ _ => .val undef) (N - 1) 1 18446744073709551615 _ (by omega) (by omega) (Nat.le_refl 1) RowsF.one
  refine ⟨f', h', fun {α} k0 k1 => ?_⟩
  unfold ref05_First ref05_First_T
  rw [dec_f (by omega), cond_false, dec_f (by omega), cond_false]
  unfold ref05_First_L0
  refine Eq.trans (l0_succ 18446744073709551615 _ _ _ _ _ _) ?_
  unfold ref05_First_L0_s0
  rw [dec_t (by omega), cond_true]
  exact e' _ _
theorem mem_loop (nl : Bool) (n : Nat) (f g h : Nat → Nat → PV) (id m tg : Int) {N : Nat} (hN : N ≤ 1000000) : ∀ (d i fuel : Nat), i + d = N → d < fuel → ∀ {α : Type} (k0 : Bool → Nat → (Nat → Nat → PV) → (Nat → Nat → PV) → (Nat → Nat → PV) → MapL → Option α), vlan_members_L0_l0 k0 fuel (N : Int) (i : Int) nl n f g h (mList m tg i) id m tg = k0 nl n f g h (mList m tg N)
  | 0, i, fuel + 1, hd, hf, α, k0 => by
    obtain rfl : i = N := by omega
    show vlan_members_L0_s0 _ k0 (i : Int) (i : Int) nl n f g h _ id m tg = _
    unfold vlan_members_L0_s0
    rw [dec_f (Int.lt_irrefl _), cond_false]
  | d + 1, i, fuel + 1, hd, hf, α, k0 => by
    have ih := mem_loop nl n f g h id m tg hN d (i + 1) fuel (by omega) (by omega) k0
    have e : IntKind.i64.wrap ((i : Int) + 1) = ((i + 1 : Nat) : Int) := by rw [i64_id (by omega) (by omega)]; rfl
    show vlan_members_L0_s0 _ k0 (N : Int) (i : Int) nl n f g h _ id m tg = _
    unfold vlan_members_L0_s0
    rw [dec_t (by omega), cond_true, e]
    rw [mList_succ] at ih
    by_cases h8 : i < 8
    · rw [dec_t (by omega), cond_true, dec_f (by omega), cond_false]
      cases hb : bitm m (i : Int) with
      | true =>
        have hm : isM m i = true := by unfold isM; rw [dec_t h8, hb]; rfl
        rw [hm, cond_true] at ih
        unfold bitm at hb
        rw [hb, cond_true, cond_false]
        have e2' : e6 (mList m tg i) (i : Int) tg = mList m tg i ++ [mE tg i] := by
          unfold e6
          rw [mput_new _ _ _ (by rw [mhas_list, dec_f (by omega)]; rfl)]
          rfl
        rw [e2']
        exact ih
      | false =>
        have hm : isM m i = false := by unfold isM; rw [hb, Bool.and_false]
        rw [hm, cond_false] at ih
        unfold bitm at hb
        rw [hb, cond_false]
        exact ih
    · have hm : isM m i = false := by unfold isM; rw [dec_f h8]; rfl
      rw [hm, cond_false] at ih
      rw [dec_f (by omega), cond_false]
      exact ih
theorem nomem_loop (nl : Bool) (n : Nat) (f g h : Nat → Nat → PV) {N : Nat} (hN : N ≤ 1000000) (l : MapL) : ∀ (d i fuel : Nat), i + d = N → d < fuel → ∀ {α : Type} (k0 : Bool → Nat → (Nat → Nat → PV) → (Nat → Nat → PV) → (Nat → Nat → PV) → MapL → Option α), vlan_members_L0_v1_l0 k0 fuel (N : Int) (i : Int) nl n f g h l = k0 nl n f g h l
  | 0, i, fuel + 1, hd, hf, α, k0 => by
    obtain rfl : i = N := by omega
    show vlan_members_L0_v1_s0 _ k0 (i : Int) (i : Int) nl n f g h l = _
    unfold vlan_members_L0_v1_s0
    rw [dec_f (Int.lt_irrefl _), cond_false]
  | d + 1, i, fuel + 1, hd, hf, α, k0 => by
    show vlan_members_L0_v1_s0 _ k0 (N : Int) (i : Int) nl n f g h l = _
    unfold vlan_members_L0_v1_s0
    rw [dec_t (by omega), cond_true, i64_id (by omega) (by omega)]
    exact nomem_loop nl n f g h hN l d (i + 1) fuel (by omega) (by omega) k0
/-- the one VLAN's row -/
def vrow (N : Nat) : Nat → Nat → PV := rowOf 3 [.val (.int .i64 1), .val (.int .u8 (msk N)), .val (.int .u8 0)]
theorem members_eq {N : Nat} (hN : N ≤ 8) (v : Int) (f h : Nat → Nat → PV) {α : Type} (k0 : Bool → Nat → (Nat → Nat → PV) → (Nat → Nat → PV) → (Nat → Nat → PV) → MapL → Option α) :
    vlan_members_v1 v false N f (vrow N) h k0 = k0 false N f (vrow N) h (bif v == 1 then mList (msk N) 0 N else []) := by
  unfold vlan_members_v1 vlan_members_v1_T vlan_find vlan_find_T
  rw [show numOf (vrow N 0 0) = 1 from rfl, show numOf (vrow N 0 1) = msk N from rfl, show numOf (vrow N 0 2) = 0 from rfl]
  rw [show ((1 : Int) == v) = (v == 1) from by rw [Bool.eq_iff_iff, beq_iff_eq, beq_iff_eq]; exact eq_comm]
  cases hv : (v == 1) with
  | true =>
    rw [cond_true, cond_true]
    unfold vlan_members_L0
    exact mem_loop false N f (vrow N) h 1 (msk N) 0 (by omega) N 0 18446744073709551616 (by omega) (by omega) k0
  | false =>
    rw [cond_false, cond_false]
    unfold vlan_members_L0_v1
    exact nomem_loop false N f (vrow N) h (by omega) [] N 0 18446744073709551616 (by omega) (by omega) k0
theorem ml_has {N : Nat} (hN : N ≤ 8) (p : Int) : mhas (mList (msk N) 0 N) [.val (.int .i64 p)] = decide (0 ≤ p ∧ p < N) := by
  rw [mhas_list]
  by_cases h : 0 ≤ p ∧ p < N
  · rw [dec_t h, Bool.true_and]
    unfold isM
    rw [dec_t (by omega), Bool.true_and, msk_bit N (by omega) p.toNat (by omega), dec_t (by omega)]
  · rw [dec_f h]; rfl
theorem ml_len {N : Nat} (hN : N ≤ 8) : (mList (msk N) 0 N).length = N := by
  unfold mList
  rw [List.length_map, List.filter_eq_self.2, List.length_range]
  intro j hj
  have := List.mem_range.1 hj
  unfold isM
  rw [dec_t (by omega), msk_bit N (by omega) j (by omega), dec_t this]
  rfl
theorem ml_cell {N : Nat} (hN : N ≤ 8) {p : Int} (h0 : 0 ≤ p) (h1 : p < N) : (numOf (mcell (mList (msk N) 0 N) [.val (.int .i64 p)] 0) == 1) = false := by
  obtain ⟨k, rfl⟩ : ∃ k : Nat, p = (k : Int) := ⟨p.toNat, by omega⟩
  rw [mcell_list _ _ _ k (by omega) (by unfold isM; rw [dec_t (by omega), msk_bit N (by omega) k (by omega), dec_t (by omega)]; rfl)]
  exact no_tag k (by omega)
theorem up_eq {N : Nat} {f : Nat → Nat → PV} (hf : RowsF N f) (g h : Nat → Nat → PV) (p : Int) (h0 : 0 ≤ p) (h1 : p < N) {α : Type} (k0 : Bool → Bool → Nat → (Nat → Nat → PV) → (Nat → Nat → PV) → (Nat → Nat → PV) → Option α) :
    vlan_up_v1 p false N f g h k0 = k0 true false N f g h := by
  unfold vlan_up_v1 vlan_up_v1_T
  rw [dec_t (show p ≥ 0 from h0), cond_true, dec_t h1, cond_true, inb_t h0 h1, cond_true, (hf p.toNat (by omega)).1]
  rfl
theorem in_eq {N : Nat} (hN : N ≤ 8) {f : Nat → Nat → PV} (hf : RowsF N f) (h : Nat → Nat → PV) (p : Int) (h0 : 0 ≤ p) (h1 : p < N) (d s : Int) (tag : Bool) (x y z : Int) (bnl : Bool) (bn : Nat) (bf : Nat → Nat → PV) {α : Type} (k0 : Int → Bool → Bool → Nat → (Nat → Nat → PV) → (Nat → Nat → PV) → (Nat → Nat → PV) → Option α) :
    vlan_In_v1 p d s tag x y z bnl bn bf false N f (vrow N) h k0 = bif !tag || y == 0 || y == 1 then k0 1 true false N f (vrow N) h else k0 0 false false N f (vrow N) h := by
  unfold vlan_In_v1 vlan_In_v1_T
  rw [up_eq hf _ _ p h0 h1]
  have hw : ∀ v : Int, mhas (bif v == 1 then mList (msk N) 0 N else []) [.val (.int .i64 p)] = (v == 1) := fun v => by
    cases hv : v == 1 with
    | true => rw [cond_true, ml_has hN, dec_t ⟨h0, h1⟩]
    | false => rfl
  rw [show numOf (f p.toNat 2) = 1 by rw [(hf p.toNat (by omega)).2]; rfl]
  rw [Bool.not_true, cond_false, inb_t h0 h1, cond_true, members_eq hN, hw, members_eq hN, hw]
  cases tag with
  | false => rfl
  | true =>
    rw [cond_true, Bool.not_true, Bool.false_or, beq_self_eq_true, cond_true]
    by_cases h2 : y = 0
    · subst h2; rfl
    · rw [show (y != 0) = true from bne_iff_ne.2 h2, cond_true, beq_false_of_ne h2, Bool.false_or]
      by_cases h3 : y = 1
      · subst h3; rfl
      · rw [beq_false_of_ne h3]; rfl
theorem out2_eq {N : Nat} (hN : N ≤ 8) {f : Nat → Nat → PV} (hf : RowsF N f) (h : Nat → Nat → PV) (p : Int) (h0 : 0 ≤ p) (d s : Int) (tag : Bool) (x y z : Int) (bnl : Bool) {bn : Nat} (hb : bn ≤ 1000000) (bf : Nat → Nat → PV) {α : Type} (k0 : Int → Int → Bool → Int → Int → Int → Bool → Bool → Nat → (Nat → Nat → PV) → (Nat → Nat → PV) → (Nat → Nat → PV) → Bool → Nat → (Nat → Nat → PV) → Option α) :
    vlan_Out_v2 p d s tag x y z bnl bn bf false N f (vrow N) h k0 = bif decide (p < N) then (bif bnl then k0 d s false 0 0 z true false N f (vrow N) h true 0 (fun _ _ => .val undef) else k0 d s false 0 0 z true false N f (vrow N) h false bn bf) else k0 0 0 false 0 0 0 false false N f (vrow N) h true 0 (fun _ _ => .val undef) := by
  unfold vlan_Out_v2 vlan_Out_v2_T
  rw [members_eq hN]
  rw [show ((1 : Int) == 1) = true from rfl, cond_true, ml_has hN]
  by_cases h1 : p < N
  · rw [dec_t ⟨h0, h1⟩, cond_true, up_eq hf _ _ p h0 h1, dec_t h1]
    rw [Bool.not_true, cond_false, cond_true]
    unfold frame_Tagged frame_Tagged_T
    rw [dec_f (by omega), cond_false, dec_f (by omega), cond_false]
    simp only [ml_cell hN h0 h1, clone_b _ hb]
    cases tag <;> cases bnl <;> rfl
  · rw [dec_f (show ¬ (0 ≤ p ∧ p < N) by omega), dec_f h1]
    rfl
theorem out3_eq {N : Nat} (hN : N ≤ 8) (f : Nat → Nat → PV) (h : Nat → Nat → PV) (p : Int) (d s : Int) (tag : Bool) (x y z : Int) (bnl : Bool) (bn : Nat) (bf : Nat → Nat → PV) {α : Type} (k0 : Int → Int → Bool → Int → Int → Int → Bool → Bool → Nat → (Nat → Nat → PV) → (Nat → Nat → PV) → (Nat → Nat → PV) → Bool → Nat → (Nat → Nat → PV) → Option α) :
    vlan_Out_v3 p d s tag x y z bnl bn bf false N f (vrow N) h k0 = k0 0 0 false 0 0 0 false false N f (vrow N) h true 0 (fun _ _ => .val undef) := by
  unfold vlan_Out_v3 vlan_Out_v3_T
  rw [members_eq hN]
  rfl
theorem q10_eq {N : Nat} (n1 : 1 ≤ N) (hN : N ≤ 8) {f : Nat → Nat → PV} (hf : RowsF N f) (h : Nat → Nat → PV) (p : Int) (h0 : 0 ≤ p) (h1 : p < N) (d s : Int) (tag : Bool) (x y z : Int) (bnl : Bool) {bn : Nat} (hb : bn ≤ 1000000) (bf : Nat → Nat → PV) (hnl : bnl = true → bn = 0) {α : Type} (k0 k1 : Option α) :
    law19_VlanFirst_Q10_v1 (N : Int) p d s tag x y z bnl bn bf false N f (vrow N) h k0 k1 = k0 := by
  unfold law19_VlanFirst_Q10_v1 law19_VlanFirst_Q10_v1_T
  rw [out2_eq hN hf h p h0 _ _ _ _ _ _ _ hb, dec_t h1, cond_true]
  have hs : bnl = true → strOf 0 (fun _ _ => .val undef) = strOf bn bf := fun e => by rw [hnl e]; exact strOf_congr fun j h => absurd h (Nat.not_lt_zero j)
  have fin : ∀ (nl' : Bool) (n' : Nat) (f' : Nat → Nat → PV), strOf n' f' = strOf bn bf → (bif true then bif !false then bif d == d then bif ((strOf n' f').toList == (strOf bn bf).toList) then bif !false then bif !false then vlan_members_v1 1 false N f (vrow N) h (fun r_62 r_63 r_64 r_65 r_66 r_67 => bif Nat.ble r_67.length 1000000 then bif ((r_67.length : Int) == (N : Int)) then vlan_members_v1 2 r_62 r_63 r_64 r_65 r_66 (fun r_68 r_69 r_70 r_71 r_72 r_73 => bif Nat.ble r_73.length 1000000 then bif ((r_73.length : Int) == 0) then k0 else k1 else none) else k1 else none) else k1 else k1 else k1 else k1 else k1 else k1) = k0 := fun nl' n' f' e => by
    rw [e, beq_self_eq_true, beq_self_eq_true, members_eq hN]
    rw [show ((1 : Int) == 1) = true from rfl, show (bif true then mList (msk N) 0 N else []) = mList (msk N) 0 N from rfl, cond_true, Bool.not_false, cond_true, cond_true, ml_len hN, ble_true (show N ≤ 1000000 by omega), beq_self_eq_true, cond_true, cond_true, cond_true, cond_true, cond_true, members_eq hN]
    rfl
  cases bnl with
  | true =>
    rw [cond_true]
    rw [out3_eq hN, out2_eq hN hf h (N : Int) (by omega) _ _ _ _ _ _ _ hb, dec_f (Int.lt_irrefl _), cond_false]
    exact fin true 0 _ (hs rfl)
  | false =>
    rw [cond_false]
    rw [out3_eq hN, out2_eq hN hf h (N : Int) (by omega) _ _ _ _ _ _ _ hb, dec_f (Int.lt_irrefl _), cond_false]
    exact fin false bn bf rfl
theorem main {α : Type} (a_1 : Int) (a_2 : Int) (a_3 : Int) (a_4 : Int) (a_5 : Bool) (a_6 : Int) (a_7 : Int) (a_8 : Int) (a_9 : Bool) (a_10 : Nat) (a_11 : Nat → Nat → PV) (h_1 : PvOk (.val (.int .u8 a_1))) (h_2 : PvOk (.val (.int .u8 a_2))) (h_3 : PvOk (.val (.int .u64 a_3))) (h_4 : PvOk (.val (.int .u64 a_4))) (h_6 : PvOk (.val (.int .i64 a_6))) (h_7 : PvOk (.val (.int .i64 a_7))) (h_8 : PvOk (.val (.int .i64 a_8))) (h_9 : PvOk (.sl a_9 (.int .u8 .nil) 1 a_10 a_11)) (k_9 : RowK (.int .u8 .nil) a_10 a_11) (k0 k1 : Option α) : law19_VlanFirst a_1 a_2 a_3 a_4 a_5 a_6 a_7 a_8 a_9 a_10 a_11 k0 k1 = k0 := by
  have r1 := pv_u8 h_1
  have r2 := pv_u8 h_2
  have tm : ∀ x y : Int, 0 ≤ x → 0 < y → x.tmod y = x % y := fun x y hx hy => by rw [Int.tmod_eq_emod_of_nonneg hx]
  obtain ⟨N, hN, n1, n8⟩ : ∃ N : Nat, IntKind.i64.wrap (1 + ((IntKind.i64.wrap a_1).tmod 8)) = (N : Int) ∧ 1 ≤ N ∧ N ≤ 8 := by
    rw [i64_id (n := a_1) (by omega) (by omega), tm _ _ (by omega) (by decide), i64_id (by omega) (by omega)]
    exact ⟨(1 + a_1 % 8).toNat, by omega, by omega, by omega⟩
  obtain ⟨p, hp, p0, p1⟩ : ∃ p : Int, (IntKind.i64.wrap a_2).tmod (N : Int) = p ∧ 0 ≤ p ∧ p < N := ⟨_, rfl, by rw [i64_id (n := a_2) (by omega) (by omega), tm _ _ (by omega) (by omega)]; exact Int.emod_nonneg _ (by omega), by rw [i64_id (n := a_2) (by omega) (by omega), tm _ _ (by omega) (by omega)]; exact Int.emod_lt_of_pos _ (by omega)⟩
  obtain ⟨f, hf, he⟩ := first_eq n1 n8
  have hnl := (pv_sl h_9).2.1
  unfold law19_VlanFirst law19_VlanFirst_T
  rw [hN, hp, he]
  rw [beq_false_of_ne (show (N : Int) ≠ 0 by omega), cond_false]
  by_cases s4 : (a_10 : Int) > 2000
  · rw [dec_t s4]; rfl
  rw [dec_f s4, cond_false]
  have hb : a_10 ≤ 1000000 := by omega
  rw [show (rowOf 3 [.val (.int .i64 1), .val (.int .u8 (msk N)), .val (.int .u8 0)]) = vrow N from rfl]
  rw [in_eq n8 hf _ p p0 p1]
  cases a_5 with
  | false =>
    rw [Bool.not_false, Bool.true_or, Bool.true_or, cond_true]
    exact q10_eq n1 n8 hf _ p p0 p1 _ _ _ _ _ _ _ hb _ hnl _ _
  | true =>
    rw [Bool.not_true, Bool.false_or]
    cases h0 : a_7 == 0 with
    | true =>
      rw [Bool.true_or, cond_true]
      exact q10_eq n1 n8 hf _ p p0 p1 _ _ _ _ _ _ _ hb _ hnl _ _
    | false =>
      rw [Bool.false_or]
      cases h1 : a_7 == 1 with
      | true =>
        rw [cond_true]
        exact q10_eq n1 n8 hf _ p p0 p1 _ _ _ _ _ _ _ hb _ hnl _ _
      | false =>
        rw [cond_false]
        exact q10_eq n1 n8 hf _ p p0 p1 _ _ _ _ _ _ _ hb _ hnl _ _
end Go.Proofs.Ytijabmpcicddbaa.VlanFirst

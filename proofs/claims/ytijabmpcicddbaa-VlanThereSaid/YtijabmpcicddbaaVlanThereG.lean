/- The document's test of a configuration answers (either way). -/
import Derived.Test.YtijabmpcicddbaaVlanThereL
set_option linter.unusedVariables false
set_option linter.unusedSimpArgs false
set_option maxHeartbeats 1000000
namespace Go.Proofs.Ytijabmpcicddbaa.VlanThere
open Go.Ve
theorem rmember_b (x m t p : Int) : ∃ b : Bool, ∀ {α : Type} (k0 : Bool → Option α), ref05_Member x m t p k0 = k0 b := by
  by_cases h : p < 18446744073709551616
  · exact ⟨_, fun {α} k0 => rmember_eq x m t p h k0⟩
  · refine ⟨false, fun {α} k0 => ?_⟩
    unfold ref05_Member ref05_Member_T
    rw [dec_t (show p ≥ 0 by omega), cond_true, dec_f (show ¬ p < 8 by omega)]
    rfl
theorem less_b (a b c d e f : Int) : ∃ r : Bool, ∀ {α : Type} (k0 : Bool → Option α), ref05_less a b c d e f k0 = k0 r := by
  unfold ref05_less ref05_less_T
  cases decide (b < e) with
  | true => exact ⟨true, fun k0 => rfl⟩
  | false =>
    cases b == e with
    | true => exact ⟨_, fun k0 => rfl⟩
    | false => exact ⟨false, fun k0 => rfl⟩
theorem good2_loop (i b1 b2 b3 : Int) (pnl : Bool) (pn : Nat) (pf : Nat → Nat → PV) (vnl : Bool) (vn : Nat) (vf : Nat → Nat → PV) (qnl : Bool) (qn : Nat) (qf : Nat → Nat → PV) (x m t : Int) : ∀ (d j fuel : Nat), j + d = max j 8 → d < fuel → j ≤ 1000000 →
    ∃ b : Bool, ∀ {α : Type} (k0 : Option α) (k1 : Int → Int → Int → Int → Bool → Nat → (Nat → Nat → PV) → Bool → Nat → (Nat → Nat → PV) → Bool → Nat → (Nat → Nat → PV) → Option α), ref05_Good_L2_v1_l0 k0 k1 fuel i (j : Int) b1 b2 b3 pnl pn pf vnl vn vf qnl qn qf x m t = bif b then k0 else k1 i b1 b2 b3 pnl pn pf vnl vn vf qnl qn qf
  | 0, j, fuel + 1, hd, hf, hj => ⟨false, fun {α} k0 k1 => by
    show ref05_Good_L2_v1_s0 _ _ k0 k1 i (j : Int) b1 b2 b3 pnl pn pf vnl vn vf qnl qn qf x m t = _
    unfold ref05_Good_L2_v1_s0
    rw [dec_f (by omega), cond_false, cond_false]⟩
  | d + 1, j, fuel + 1, hd, hf, hj => by
    obtain ⟨b, hb⟩ := rmember_b x m t (j : Int)
    obtain ⟨c, hc⟩ := good2_loop i b1 b2 b3 pnl pn pf vnl vn vf qnl qn qf x m t d (j + 1) fuel (by omega) (by omega) (by omega)
    refine ⟨b || c, fun {α} k0 k1 => ?_⟩
    show ref05_Good_L2_v1_s0 _ _ k0 k1 i (j : Int) b1 b2 b3 pnl pn pf vnl vn vf qnl qn qf x m t = _
    unfold ref05_Good_L2_v1_s0
    rw [dec_t (by omega), cond_true, hb, i64_id (by omega) (by omega)]
    refine Eq.trans (congrArg (cond b k0) (hc k0 k1)) ?_
    cases b <;> rfl
theorem good0_loop (b1 b2 b3 : Int) (pnl : Bool) (pn : Nat) (hp : pn ≤ 1000000) (pf : Nat → Nat → PV) (vnl : Bool) (vn : Nat) (hv : vn ≤ 1000000) (vf : Nat → Nat → PV) (qnl : Bool) (qn : Nat) (qf : Nat → Nat → PV) : ∀ (d i fuel : Nat), i + d = vn → d < fuel →
    ∃ b : Bool, ∀ {α : Type} (k0 : Option α) (k1 : Int → Int → Int → Bool → Nat → (Nat → Nat → PV) → Bool → Nat → (Nat → Nat → PV) → Bool → Nat → (Nat → Nat → PV) → Option α), ref05_Good_L0_l0 k0 k1 fuel (i : Int) b1 b2 b3 pnl pn pf vnl vn vf qnl qn qf = bif b then k0 else k1 b1 b2 b3 pnl pn pf vnl vn vf qnl qn qf
  | 0, i, fuel + 1, hd, hf => ⟨false, fun {α} k0 k1 => by
    show ref05_Good_L0_s0 _ _ k0 k1 (i : Int) b1 b2 b3 pnl pn pf vnl vn vf qnl qn qf = _
    unfold ref05_Good_L0_s0
    rw [dec_f (by omega), cond_false, cond_false]⟩
  | d + 1, i, fuel + 1, hd, hf => by
    obtain ⟨b, hb⟩ := good2_loop (i : Int) b1 b2 b3 pnl pn pf vnl vn vf qnl qn qf (numOf (vf i 0)) (numOf (vf i 1)) (numOf (vf i 2)) (max pn 8 - pn) pn 18446744073709551616 (by omega) (by omega) hp
    obtain ⟨c, hc⟩ := good0_loop b1 b2 b3 pnl pn hp pf vnl vn hv vf qnl qn qf d (i + 1) fuel (by omega) (by omega)
    have h2 : ∀ {α : Type} (k0 : Option α) (k1 : Int → Int → Int → Bool → Nat → (Nat → Nat → PV) → Bool → Nat → (Nat → Nat → PV) → Bool → Nat → (Nat → Nat → PV) → Option α), ref05_Good_L2_v1 (i : Int) (pn : Int) b1 b2 b3 pnl pn pf vnl vn vf qnl qn qf (numOf (vf i 0)) (numOf (vf i 1)) (numOf (vf i 2)) k0 (fun r_14 r_15 r_16 r_17 r_18 r_19 r_20 r_21 r_22 r_23 r_24 r_25 r_26 => ref05_Good_L0_l0 k0 k1 fuel (IntKind.i64.wrap (r_14 + 1)) r_15 r_16 r_17 r_18 r_19 r_20 r_21 r_22 r_23 r_24 r_25 r_26) = bif b || c then k0 else k1 b1 b2 b3 pnl pn pf vnl vn vf qnl qn qf := fun {α} k0 k1 => by
      unfold ref05_Good_L2_v1
      refine Eq.trans (hb k0 _) ?_
      rw [i64_id (by omega) (by omega)]
      refine Eq.trans (congrArg (cond b k0) (hc k0 k1)) ?_
      cases b <;> rfl
    by_cases hi : (i : Int) > 0
    · refine ⟨decide ((numOf (vf i 0)) < 1) || (decide ((numOf (vf i 0)) > 4094) || (e5 vf (i : Int) || (((bits .andNot .u8 (numOf (vf i 2)) (numOf (vf i 1))) != 0) || (b || c)))), fun {α} k0 k1 => ?_⟩
      show ref05_Good_L0_s0 _ _ k0 k1 (i : Int) b1 b2 b3 pnl pn pf vnl vn vf qnl qn qf = _
      unfold ref05_Good_L0_s0
      rw [dec_t (by omega), cond_true, inb_t (by omega) (by omega), cond_true, dec_t hi, cond_true, i64_id (by omega) (by omega), inb_t (by omega) (by omega), cond_true, Int.toNat_natCast]
      rw [h2]
      cases decide ((numOf (vf i 0)) < 1) <;> cases decide ((numOf (vf i 0)) > 4094) <;> cases e5 vf (i : Int) <;> cases ((bits .andNot .u8 (numOf (vf i 2)) (numOf (vf i 1))) != 0) <;> rfl
    · refine ⟨decide ((numOf (vf i 0)) < 1) || (decide ((numOf (vf i 0)) > 4094) || (((bits .andNot .u8 (numOf (vf i 2)) (numOf (vf i 1))) != 0) || (b || c))), fun {α} k0 k1 => ?_⟩
      show ref05_Good_L0_s0 _ _ k0 k1 (i : Int) b1 b2 b3 pnl pn pf vnl vn vf qnl qn qf = _
      unfold ref05_Good_L0_s0
      rw [dec_t (by omega), cond_true, inb_t (by omega) (by omega), cond_true, dec_f hi, cond_false, Int.toNat_natCast]
      rw [h2]
      cases decide ((numOf (vf i 0)) < 1) <;> cases decide ((numOf (vf i 0)) > 4094) <;> cases ((bits .andNot .u8 (numOf (vf i 2)) (numOf (vf i 1))) != 0) <;> rfl
theorem good4_loop (b1 b2 b3 : Int) (pnl : Bool) (pn : Nat) (hp : pn ≤ 1000000) (pf : Nat → Nat → PV) (vnl : Bool) (vn : Nat) (hv : vn ≤ 1000000) (vf : Nat → Nat → PV) (qnl : Bool) (qn : Nat) (qf : Nat → Nat → PV) : ∀ (d i fuel : Nat), i + d = pn → d < fuel →
    ∃ b : Bool, ∀ {α : Type} (k0 : Option α) (k1 : Int → Int → Int → Bool → Nat → (Nat → Nat → PV) → Bool → Nat → (Nat → Nat → PV) → Bool → Nat → (Nat → Nat → PV) → Option α), ref05_Good_L4_l0 k0 k1 fuel (i : Int) b1 b2 b3 pnl pn pf vnl vn vf qnl qn qf = bif b then k0 else k1 b1 b2 b3 pnl pn pf vnl vn vf qnl qn qf
  | 0, i, fuel + 1, hd, hf => ⟨false, fun {α} k0 k1 => by
    show ref05_Good_L4_s0 _ _ k0 k1 (i : Int) b1 b2 b3 pnl pn pf vnl vn vf qnl qn qf = _
    unfold ref05_Good_L4_s0
    rw [dec_f (by omega), cond_false, cond_false]⟩
  | d + 1, i, fuel + 1, hd, hf => by
    obtain ⟨c, hc⟩ := good4_loop b1 b2 b3 pnl pn hp pf vnl vn hv vf qnl qn qf d (i + 1) fuel (by omega) (by omega)
    have step : ∀ {α : Type} (k0 : Option α) (k1 : Int → Int → Int → Bool → Nat → (Nat → Nat → PV) → Bool → Nat → (Nat → Nat → PV) → Bool → Nat → (Nat → Nat → PV) → Option α), ref05_Good_L4_l0 k0 k1 (fuel + 1) (i : Int) b1 b2 b3 pnl pn pf vnl vn vf qnl qn qf = bif decide ((numOf (pf i 1)) < 1) then k0 else bif decide ((numOf (pf i 1)) > 200000000) then k0 else bif (vi vf vn (numOf (pf i 2))).isNone then k0 else bif c then k0 else k1 b1 b2 b3 pnl pn pf vnl vn vf qnl qn qf := fun {α} k0 k1 => by
      show ref05_Good_L4_s0 _ _ k0 k1 (i : Int) b1 b2 b3 pnl pn pf vnl vn vf qnl qn qf = _
      unfold ref05_Good_L4_s0
      rw [dec_t (show (i : Int) < (pn : Int) by omega), cond_true, inb_t (by omega) (by omega), cond_true, cond_true, cond_true, Int.toNat_natCast, rvlan_eq hv]
      cases hq : vi vf vn (numOf (pf i 2)) with
      | none => rfl
      | some r =>
        dsimp only
        rw [dec_f (show ¬ ((r : Int) < 0) by omega), cond_false, i64_id (by omega) (by omega)]
        rw [show ((i : Int) + 1) = ((i + 1 : Nat) : Int) from rfl, hc k0 k1]
        rfl
    refine ⟨decide ((numOf (pf i 1)) < 1) || (decide ((numOf (pf i 1)) > 200000000) || ((vi vf vn (numOf (pf i 2))).isNone || c)), fun {α} k0 k1 => ?_⟩
    rw [step]
    cases decide ((numOf (pf i 1)) < 1) <;> cases decide ((numOf (pf i 1)) > 200000000) <;> cases (vi vf vn (numOf (pf i 2))).isNone <;> rfl
theorem good6_loop (b1 b2 b3 : Int) (pnl : Bool) (pn : Nat) (hp : pn ≤ 1000000) (pf : Nat → Nat → PV) (vnl : Bool) (vn : Nat) (hv : vn ≤ 1000000) (vf : Nat → Nat → PV) (qnl : Bool) (qn : Nat) (hqn : qn ≤ 1000000) (qf : Nat → Nat → PV) : ∀ (d i fuel : Nat), i + d = qn → d < fuel →
    ∃ b : Bool, ∀ {α : Type} (k0 : Option α) (k1 : Option α), ref05_Good_L6_l0 k0 k1 fuel (i : Int) b1 b2 b3 pnl pn pf vnl vn vf qnl qn qf = bif b then k0 else k1
  | 0, i, fuel + 1, hd, hf => ⟨false, fun {α} k0 k1 => by
    show ref05_Good_L6_s0 _ _ _ _ k0 k1 (i : Int) b1 b2 b3 pnl pn pf vnl vn vf qnl qn qf = _
    unfold ref05_Good_L6_s0
    rw [dec_f (by omega), cond_false, cond_false]⟩
  | d + 1, i, fuel + 1, hd, hf => by
    obtain ⟨c, hc⟩ := good6_loop b1 b2 b3 pnl pn hp pf vnl vn hv vf qnl qn hqn qf d (i + 1) fuel (by omega) (by omega)
    cases hq : vi vf vn (numOf (qf i 1)) with
    | none =>
      refine ⟨true, fun {α} k0 k1 => ?_⟩
      show ref05_Good_L6_s0 _ _ _ _ k0 k1 (i : Int) b1 b2 b3 pnl pn pf vnl vn vf qnl qn qf = _
      unfold ref05_Good_L6_s0
      rw [dec_t (by omega), cond_true, inb_t (by omega) (by omega), cond_true, Int.toNat_natCast, rvlan_eq hv, hq]
      dsimp only
      rw [dec_t (show (-1 : Int) < 0 by omega)]
      cases decide ((numOf (qf i 0)) < 1) <;> cases decide ((numOf (qf i 0)) ≥ 281474976710656) <;> cases ((bits .and .u64 (shrI .u64 (numOf (qf i 0)) 40) 1) == 1) <;> rfl
    | some r =>
      have hr := (vi_at hq).1
      obtain ⟨m, hm⟩ := rmember_b (numOf (vf r 0)) (numOf (vf r 1)) (numOf (vf r 2)) (numOf (qf i 2))
      by_cases hi : (i : Int) > 0
      · obtain ⟨l, hl⟩ := less_b (numOf (qf (i - 1) 0)) (numOf (qf (i - 1) 1)) (numOf (qf (i - 1) 2)) (numOf (qf i 0)) (numOf (qf i 1)) (numOf (qf i 2))
        refine ⟨decide ((numOf (qf i 0)) < 1) || (decide ((numOf (qf i 0)) ≥ 281474976710656) || (((bits .and .u64 (shrI .u64 (numOf (qf i 0)) 40) 1) == 1) || (decide ((numOf (qf i 2)) ≥ (pn : Int)) || (!m || (!l || c))))), fun {α} k0 k1 => ?_⟩
        show ref05_Good_L6_s0 _ _ _ _ k0 k1 (i : Int) b1 b2 b3 pnl pn pf vnl vn vf qnl qn qf = _
        unfold ref05_Good_L6_s0
        rw [dec_t (show (i : Int) < (qn : Int) by omega), cond_true, inb_t (by omega) (by omega), cond_true, Int.toNat_natCast, rvlan_eq hv, hq]
        dsimp only
        rw [dec_f (show ¬ ((r : Int) < 0) by omega), cond_false, inb_t (by omega) (by omega), cond_true, Int.toNat_natCast, hm]
        rw [dec_t hi, cond_true, i64_id (n := (i : Int) - 1) (by omega) (by omega), inb_t (by omega) (by omega), cond_true, show ((i : Int) - 1).toNat = i - 1 by omega, hl, i64_id (by omega) (by omega), show ((i : Int) + 1) = ((i + 1 : Nat) : Int) from rfl, hc k0 k1]
        cases decide ((numOf (qf i 0)) < 1) <;> cases decide ((numOf (qf i 0)) ≥ 281474976710656) <;> cases ((bits .and .u64 (shrI .u64 (numOf (qf i 0)) 40) 1) == 1) <;> cases decide ((numOf (qf i 2)) ≥ (pn : Int)) <;> cases m <;> cases l <;> rfl
      · refine ⟨decide ((numOf (qf i 0)) < 1) || (decide ((numOf (qf i 0)) ≥ 281474976710656) || (((bits .and .u64 (shrI .u64 (numOf (qf i 0)) 40) 1) == 1) || (decide ((numOf (qf i 2)) ≥ (pn : Int)) || (!m || c)))), fun {α} k0 k1 => ?_⟩
        show ref05_Good_L6_s0 _ _ _ _ k0 k1 (i : Int) b1 b2 b3 pnl pn pf vnl vn vf qnl qn qf = _
        unfold ref05_Good_L6_s0
        rw [dec_t (show (i : Int) < (qn : Int) by omega), cond_true, inb_t (by omega) (by omega), cond_true, Int.toNat_natCast, rvlan_eq hv, hq]
        dsimp only
        rw [dec_f (show ¬ ((r : Int) < 0) by omega), cond_false, inb_t (by omega) (by omega), cond_true, Int.toNat_natCast, hm]
        rw [dec_f hi, cond_false, i64_id (by omega) (by omega), show ((i : Int) + 1) = ((i + 1 : Nat) : Int) from rfl, hc k0 k1]
        cases decide ((numOf (qf i 0)) < 1) <;> cases decide ((numOf (qf i 0)) ≥ 281474976710656) <;> cases ((bits .and .u64 (shrI .u64 (numOf (qf i 0)) 40) 1) == 1) <;> cases decide ((numOf (qf i 2)) ≥ (pn : Int)) <;> cases m <;> rfl
theorem good_b (b1 b2 b3 : Int) (pnl : Bool) (pn : Nat) (hp : pn ≤ 1000000) (pf : Nat → Nat → PV) (vnl : Bool) (vn : Nat) (hv : vn ≤ 1000000) (vf : Nat → Nat → PV) (qnl : Bool) (qn : Nat) (hq : qn ≤ 1000000) (qf : Nat → Nat → PV) :
    ∃ b : Bool, ∀ {α : Type} (k0 k1 : Option α), ref05_Good b1 b2 b3 pnl pn pf vnl vn vf qnl qn qf k0 k1 = bif b then k0 else k1 := by
  obtain ⟨u0, h0⟩ := good0_loop b1 b2 b3 pnl pn hp pf vnl vn hv vf qnl qn qf vn 0 18446744073709551616 (by omega) (by omega)
  obtain ⟨u4, h4⟩ := good4_loop b1 b2 b3 pnl pn hp pf vnl vn hv vf qnl qn qf pn 0 18446744073709551616 (by omega) (by omega)
  obtain ⟨u6, h6⟩ := good6_loop b1 b2 b3 pnl pn hp pf vnl vn hv vf qnl qn hq qf qn 0 18446744073709551616 (by omega) (by omega)
  have hall : ∃ b : Bool, ∀ {α : Type} (k0 k1 : Option α), ref05_Good_L0 b1 b2 b3 pnl pn pf vnl vn vf qnl qn qf k0 (fun r_13 r_14 r_15 r_16 r_17 r_18 r_19 r_20 r_21 r_22 r_23 r_24 => ref05_Good_L4 r_13 r_14 r_15 r_16 r_17 r_18 r_19 r_20 r_21 r_22 r_23 r_24 k0 (fun r_25 r_26 r_27 r_28 r_29 r_30 r_31 r_32 r_33 r_34 r_35 r_36 => ref05_Good_L6 r_25 r_26 r_27 r_28 r_29 r_30 r_31 r_32 r_33 r_34 r_35 r_36 k0 k1)) = bif b then k0 else k1 := by
    refine ⟨u0 || (u4 || u6), fun {α} k0 k1 => ?_⟩
    unfold ref05_Good_L0
    refine Eq.trans (h0 k0 _) ?_
    unfold ref05_Good_L4
    refine Eq.trans (congrArg (cond u0 k0) (h4 k0 _)) ?_
    unfold ref05_Good_L6
    refine Eq.trans (congrArg (fun x => cond u0 k0 (cond u4 k0 x)) (h6 k0 k1)) ?_
    cases u0 <;> cases u4 <;> rfl
  obtain ⟨b, hb⟩ := hall
  unfold ref05_Good ref05_Good_T
  refine ⟨decide (b1 < 0) || (decide (b1 > 61440) || (((b1.tmod 4096) != 0) || (decide (b2 < 6) || (decide (b2 > 40) || (decide (b3 < 4) || (decide (b3 > 30) || (decide ((IntKind.i64.wrap (2 * (IntKind.i64.wrap (b3 - 1)))) < b2) || (decide ((pn : Int) < 1) || (decide ((pn : Int) > 8) || (decide ((vn : Int) < 1) || (decide ((vn : Int) > 16) || (decide ((qn : Int) > 16) || b)))))))))))), fun {α} k0 k1 => ?_⟩
  rw [hb]
  generalize decide (b1 < 0) = t1
  generalize decide (b1 > 61440) = t2
  generalize ((b1.tmod 4096) != 0) = t3
  generalize decide (b2 < 6) = t4
  generalize decide (b2 > 40) = t5
  generalize decide (b3 < 4) = t6
  generalize decide (b3 > 30) = t7
  generalize decide ((IntKind.i64.wrap (2 * (IntKind.i64.wrap (b3 - 1)))) < b2) = t8
  generalize decide ((pn : Int) < 1) = t9
  generalize decide ((pn : Int) > 8) = t10
  generalize decide ((vn : Int) < 1) = t11
  generalize decide ((vn : Int) > 16) = t12
  generalize decide ((qn : Int) > 16) = t13
  cases t1; rotate_left; rfl
  cases t2; rotate_left; rfl
  cases t3; rotate_left; rfl
  cases t4; rotate_left; rfl
  cases t5; rotate_left; rfl
  cases t6; rotate_left; rfl
  cases t7; rotate_left; rfl
  cases t8; rotate_left; rfl
  cases t9; rotate_left; rfl
  cases t10; rotate_left; rfl
  cases t11; rotate_left; rfl
  cases t12; rotate_left; rfl
  cases t13 <;> rfl
end Go.Proofs.Ytijabmpcicddbaa.VlanThere

/- What the code of the plane's Learn comes to. -/
import Derived.Test.YtijabmpcicddbaaPlaneLearnsL
import Derived.Test.YtijabmpcicddbaaPlaneLearnsV
set_option linter.unusedVariables false
set_option linter.unusedSimpArgs false
set_option maxHeartbeats 1000000
namespace Go.Proofs.Ytijabmpcicddbaa.PlaneLearns
open Go.Ve
/-- a port's state -/
def stt (n : Nat) (f : Nat → Nat → PV) (p : Int) : Int := bif decide (0 ≤ p ∧ p < n) then numOf (f p.toNat 0) else 0
theorem state_eq (p : Int) (n : Nat) (f : Nat → Nat → PV) {α : Type} (k0 : Int → Nat → (Nat → Nat → PV) → Option α) : plane_state p n f k0 = k0 (stt n f p) n f := by
  unfold plane_state plane_state_T stt
  by_cases h0 : p < 0
  · rw [dec_t h0, dec_f (show ¬ (0 ≤ p ∧ p < n) by omega)]; rfl
  by_cases h1 : p ≥ n
  · rw [dec_f h0, dec_t h1, dec_f (show ¬ (0 ≤ p ∧ p < n) by omega)]; rfl
  rw [dec_f h0, cond_false, dec_f h1, cond_false, inb_t (by omega) (by omega), cond_true, dec_t (show 0 ≤ p ∧ p < n by omega)]
  rfl
theorem rstate_eq (nl : Bool) (p : Int) (n : Nat) (f : Nat → Nat → PV) {α : Type} (k0 : Int → Option α) : ref20_state nl n f p k0 = k0 (stt n f p) := by
  unfold ref20_state ref20_state_T stt
  by_cases h0 : p < 0
  · rw [dec_t h0, dec_f (show ¬ (0 ≤ p ∧ p < n) by omega)]; rfl
  by_cases h1 : p ≥ n
  · rw [dec_f h0, dec_t h1, dec_f (show ¬ (0 ≤ p ∧ p < n) by omega)]; rfl
  rw [dec_f h0, cond_false, dec_f h1, cond_false, inb_t (by omega) (by omega), cond_true, dec_t (show 0 ≤ p ∧ p < n by omega)]
  rfl
/-- may a frame be? -/
def gdF (d s : Int) (tag : Bool) (x y z : Int) (n : Nat) : Bool :=
  decide (d < 281474976710656) && (decide (s < 281474976710656) && (!((bits .and .u64 (shrI .u64 s 40) 1) == 1) && (!(decide (z < 0)) && (!(decide (z > 65535)) && (!(z == 33024) && (!(decide ((n : Int) > bif tag then 1500 else 1504)) && bif tag then decide (x ≥ 0) && (decide (x < 8) && (decide (y ≥ 0) && decide (y < 4096))) else (x == 0) && (y == 0)))))))
theorem good_eq {d s : Int} (hd : 0 ≤ d) (hs : 0 ≤ s) (tag : Bool) (x y z : Int) (bnl : Bool) (n : Nat) (f : Nat → Nat → PV) {α : Type} (k0 : Bool → Option α) : frame_Good d s tag x y z bnl n f k0 = k0 (gdF d s tag x y z n) := by
  unfold frame_Good frame_Good_T gdF mac_Group mac_Group_T frame_room frame_room_T
  rw [shr48 hd, shr48 hs]
  rw [show decide (z ≥ 65536) = decide (z > 65535) from by rw [decide_eq_decide]; omega]
  generalize decide (d < 281474976710656) = A
  generalize decide (s < 281474976710656) = B
  generalize ((bits .and .u64 (shrI .u64 s 40) 1) == 1) = G
  generalize decide (z < 0) = C
  generalize decide (z > 65535) = D
  generalize (z == 33024) = E
  cases A; rfl
  cases B; rfl
  cases G; rotate_left; rfl
  cases C; rotate_left; rfl
  cases D; rotate_left; rfl
  cases E; rotate_left; rfl
  cases tag with
  | false =>
    simp only [cond_true, cond_false, Bool.not_true, Bool.not_false]
    cases decide ((n : Int) > 1504); rotate_left; rfl
    cases (x == 0) <;> rfl
  | true =>
    simp only [cond_true, cond_false, Bool.not_true, Bool.not_false]
    cases decide ((n : Int) > 1500); rotate_left; rfl
    cases decide (x ≥ 0); rfl
    cases decide (x < 8); rfl
    cases decide (y ≥ 0) <;> rfl
theorem rgood_eq {d s : Int} (tag : Bool) (x y z : Int) (bnl : Bool) (n : Nat) (f : Nat → Nat → PV) {α : Type} (k0 : Bool → Option α) : ref10_Good d s tag x y z bnl n f k0 = k0 (gdF d s tag x y z n) := by
  unfold ref10_Good ref10_Good_T gdF ref09_Group ref09_Group_T
  rw [show decide (x ≤ 7) = decide (x < 8) from by rw [decide_eq_decide]; omega, show decide (y ≤ 4095) = decide (y < 4096) from by rw [decide_eq_decide]; omega]
  generalize decide (d < 281474976710656) = A
  generalize decide (s < 281474976710656) = B
  generalize ((bits .and .u64 (shrI .u64 s 40) 1) == 1) = G
  generalize decide (z < 0) = C
  generalize decide (z > 65535) = D
  generalize (z == 33024) = E
  cases tag with
  | false =>
    cases A; rfl
    cases B; rfl
    cases G; rotate_left; rfl
    cases C; rotate_left; rfl
    cases D; rotate_left; rfl
    cases E; rotate_left; rfl
    simp only [cond_true, cond_false, Bool.not_true, Bool.not_false]
    cases decide ((n : Int) > 1504); rotate_left; rfl
    cases (x == 0) <;> rfl
  | true =>
    cases A; rfl
    cases B; rfl
    cases G; rotate_left; rfl
    cases C; rotate_left; rfl
    cases D; rotate_left; rfl
    cases E; rotate_left; rfl
    simp only [cond_true, cond_false, Bool.not_true, Bool.not_false]
    cases decide ((n : Int) > 1500); rotate_left; rfl
    cases decide (x ≥ 0); rfl
    cases decide (x < 8); rfl
    cases decide (y ≥ 0) <;> rfl
/-- in which VLAN a frame's source is learned -/
def lrn (pf : Nat → Nat → PV) (pn : Nat) (vf : Nat → Nat → PV) (vn : Nat) (n : Nat) (f : Nat → Nat → PV) (p d s : Int) (tag : Bool) (x y z : Int) (bn : Nat) : Option Int :=
  bif gdF d s tag x y z bn then match Vl.inV pf pn vf vn p tag y with | some v => bif stt n f p == 1 || stt n f p == 2 then some v else none | none => none else none
theorem pl_eq {pn vn : Nat} (hp : pn ≤ 1000000) (hv : vn ≤ 1000000) (b1 b2 b3 : Int) (pnl : Bool) (pf : Nat → Nat → PV) (vnl : Bool) (vf : Nat → Nat → PV) (qnl : Bool) (qn : Nat) (qf : Nat → Nat → PV) (p : Int) {d s : Int} (hd : 0 ≤ d) (hs : 0 ≤ s) (tag : Bool) (x y z : Int) (bnl : Bool) (bn : Nat) (bf : Nat → Nat → PV) (n : Nat) (f : Nat → Nat → PV) (M : MapL) (g : Nat → Nat → PV) {α : Type}
    (k0 : Nat → (Nat → Nat → PV) → MapL → (Nat → Nat → PV) → Option α) (k1 k2 : Nat → (Nat → Nat → PV) → Int → MapL → Bool → Nat → (Nat → Nat → PV) → Option α) (k3 : Nat → (Nat → Nat → PV) → Int → MapL → Nat → (Nat → Nat → PV) → Option α) :
    plane_Learn b1 b2 b3 pnl pn pf vnl vn vf qnl qn qf p d s tag x y z bnl bn bf n f M g k0 k1 k2 k3 = match lrn pf pn vf vn n f p d s tag x y z bn with
      | none => k0 n f M g
      | some v => fdb_Table_Learn s v p 0 M true 0 g (fun r1 r2 r3 r4 r5 => k1 n f r1 r2 r3 r4 r5) (fun r1 r2 r3 r4 r5 => k2 n f r1 r2 r3 r4 r5) (fun r1 r2 r3 r4 => k3 n f r1 r2 r3 r4) := by
  unfold plane_Learn plane_Learn_T plane_in plane_in_T lrn
  rw [good_eq hd hs]
  cases gdF d s tag x y z bn with
  | false => rw [Bool.not_false, cond_true, cond_false, state_eq]
  | true =>
    rw [Bool.not_true, cond_false, cond_true, Vl.in_eq hp hv]
    cases Vl.inV pf pn vf vn p tag y with
    | none => dsimp only; rw [state_eq]
    | some v =>
      dsimp only
      rw [state_eq]
      by_cases h1 : stt n f p = 1
      · rw [h1]; rfl
      · rw [show (stt n f p != 1) = true from bne_iff_ne.2 h1, cond_true, beq_false_of_ne h1, Bool.false_or]
        by_cases h2 : stt n f p = 2
        · rw [h2]; rfl
        · rw [show (stt n f p != 2) = true from bne_iff_ne.2 h2, cond_true, beq_false_of_ne h2, cond_false]
theorem rl_eq {pn vn : Nat} (hp : pn ≤ 1000000) (hv : vn ≤ 1000000) (b1 b2 b3 : Int) (pnl : Bool) (pf : Nat → Nat → PV) (vnl : Bool) (vf : Nat → Nat → PV) (qnl : Bool) (qn : Nat) (qf : Nat → Nat → PV) (snl : Bool) (n : Nat) (f : Nat → Nat → PV) (p d s : Int) (tag : Bool) (x y z : Int) (bnl : Bool) (bn : Nat) (bf : Nat → Nat → PV) (g h : Nat → Nat → PV) {α : Type}
    (k0 : (Nat → Nat → PV) → (Nat → Nat → PV) → Option α) (k1 k2 : Int → Bool → Nat → (Nat → Nat → PV) → Bool → Nat → (Nat → Nat → PV) → Option α) (k3 : Int → Bool → Nat → (Nat → Nat → PV) → Bool → Nat → (Nat → Nat → PV) → Nat → (Nat → Nat → PV) → Option α) :
    ref20_Learn b1 b2 b3 pnl pn pf vnl vn vf qnl qn qf snl n f p d s tag x y z bnl bn bf g h k0 k1 k2 k3 = match lrn pf pn vf vn n f p d s tag x y z bn with
      | none => k0 g h
      | some v => ref18_Table_Learn s v p 0 true 0 g true 0 h (fun r1 r2 r3 r4 r5 r6 r7 => k1 r1 r2 r3 r4 r5 r6 r7) (fun r1 r2 r3 r4 r5 r6 r7 => k2 r1 r2 r3 r4 r5 r6 r7) (fun r1 r2 r3 r4 r5 r6 r7 r8 r9 => k3 r1 r2 r3 r4 r5 r6 r7 r8 r9) := by
  unfold ref20_Learn ref20_Learn_T lrn
  rw [Vl.rin_eq hp hv]
  cases Vl.inV pf pn vf vn p tag y with
  | none =>
    dsimp only
    rw [rstate_eq, rgood_eq]
    cases gdF d s tag x y z bn <;> rfl
  | some v =>
    dsimp only
    rw [rstate_eq, rgood_eq]
    cases gdF d s tag x y z bn with
    | false => rfl
    | true =>
      rw [Bool.not_true, cond_false, cond_true]
      by_cases h1 : stt n f p = 1
      · rw [h1]; rfl
      · rw [show (stt n f p != 1) = true from bne_iff_ne.2 h1, cond_true, beq_false_of_ne h1, Bool.false_or]
        by_cases h2 : stt n f p = 2
        · rw [h2]; rfl
        · rw [show (stt n f p != 2) = true from bne_iff_ne.2 h2, cond_true, beq_false_of_ne h2, cond_false]
theorem main {α : Type} (a_1 : Int) (a_2 : Int) (a_3 : Int) (a_4 : Bool) (a_5 : Nat) (a_6 : Nat → Nat → PV) (a_7 : Bool) (a_8 : Nat) (a_9 : Nat → Nat → PV) (a_10 : Bool) (a_11 : Nat) (a_12 : Nat → Nat → PV) (a_13 : Int) (a_14 : Int) (a_15 : Int) (a_16 : Int) (a_17 : Bool) (a_18 : Int) (a_19 : Int) (a_20 : Int) (a_21 : Bool) (a_22 : Nat) (a_23 : Nat → Nat → PV) (a_24 : Bool) (a_25 : Nat) (a_26 : Nat → Nat → PV) (a_27 : Bool) (a_28 : Nat) (a_29 : Nat → Nat → PV) (h_1 : PvOk (.val (.int .i64 a_1))) (h_2 : PvOk (.val (.int .i64 a_2))) (h_3 : PvOk (.val (.int .i64 a_3))) (h_4 : PvOk (.sl a_4 (.bool (.int .u32 (.int .i64 .nil))) 3 a_5 a_6)) (k_4 : RowK (.bool (.int .u32 (.int .i64 .nil))) a_5 a_6) (h_7 : PvOk (.sl a_7 (.int .i64 (.int .u8 (.int .u8 .nil))) 3 a_8 a_9)) (k_7 : RowK (.int .i64 (.int .u8 (.int .u8 .nil))) a_8 a_9) (h_10 : PvOk (.sl a_10 (.int .u64 (.int .i64 (.int .i64 .nil))) 3 a_11 a_12)) (k_10 : RowK (.int .u64 (.int .i64 (.int .i64 .nil))) a_11 a_12) (h_13 : PvOk (.val (.int .i64 a_13))) (h_14 : PvOk (.val (.int .i64 a_14))) (h_15 : PvOk (.val (.int .u64 a_15))) (h_16 : PvOk (.val (.int .u64 a_16))) (h_18 : PvOk (.val (.int .i64 a_18))) (h_19 : PvOk (.val (.int .i64 a_19))) (h_20 : PvOk (.val (.int .i64 a_20))) (h_21 : PvOk (.sl a_21 (.int .u8 .nil) 1 a_22 a_23)) (k_21 : RowK (.int .u8 .nil) a_22 a_23) (h_24 : PvOk (.sl a_24 (.int .i64 .nil) 1 a_25 a_26)) (k_24 : RowK (.int .i64 .nil) a_25 a_26) (h_27 : PvOk (.sl a_27 (.int .i64 .nil) 1 a_28 a_29)) (k_27 : RowK (.int .i64 .nil) a_28 a_29) (k0 k1 : Option α) : law20_PlaneLearns a_1 a_2 a_3 a_4 a_5 a_6 a_7 a_8 a_9 a_10 a_11 a_12 a_13 a_14 a_15 a_16 a_17 a_18 a_19 a_20 a_21 a_22 a_23 a_24 a_25 a_26 a_27 a_28 a_29 k0 k1 = k0 := by
  have r15 := pv_u64 h_15
  have r16 := pv_u64 h_16
  unfold law20_PlaneLearns law20_PlaneLearns_T law20_fair law20_fair_T
  rw [show lenOf (e5 a_13 a_14 a_15 a_16 a_17 a_18 a_19 a_20 a_21 a_22 a_23 a_24 a_25 a_26 a_27 a_28 a_29 0 8) = a_22 from rfl, show lenOf (e5 a_13 a_14 a_15 a_16 a_17 a_18 a_19 a_20 a_21 a_22 a_23 a_24 a_25 a_26 a_27 a_28 a_29 0 9) = a_25 from rfl, show lenOf (e5 a_13 a_14 a_15 a_16 a_17 a_18 a_19 a_20 a_21 a_22 a_23 a_24 a_25 a_26 a_27 a_28 a_29 0 10) = a_28 from rfl]
  by_cases t1 : (a_22 : Int) > 2000
  · rw [dec_t t1]; rfl
  by_cases t2 : (a_25 : Int) > 20
  · rw [dec_f t1, dec_t t2]; rfl
  by_cases t3 : (a_28 : Int) > 20
  · rw [dec_f t1, dec_f t2, dec_t t3]; rfl
  rw [dec_f t1, cond_false, dec_f t2, cond_false, dec_f t3, cond_false]
  unfold law05_Fair law05_Fair_T
  by_cases s1 : (a_5 : Int) ≤ 20
  rotate_left
  · rw [dec_f s1]; rfl
  by_cases s2 : (a_8 : Int) ≤ 40
  rotate_left
  · rw [dec_t s1, dec_f s2]; rfl
  by_cases s3 : (a_11 : Int) ≤ 40
  rotate_left
  · rw [dec_t s1, dec_t s2, dec_f s3]; rfl
  rw [dec_t s1, cond_true, dec_t s2, cond_true, dec_t s3]
  dsimp only
  rw [Bool.not_true, cond_false]
  have hp : a_5 ≤ 1000000 := by omega
  have hv : a_8 ≤ 1000000 := by omega
  obtain ⟨g, hg⟩ := Vl.good_b a_1 a_2 a_3 a_4 a_5 hp a_6 a_7 a_8 hv a_9 a_10 a_11 (by omega) a_12
  rw [hg]
  cases g with
  | true => rfl
  | false =>
    rw [cond_false, Nat.zero_add, ble_true (show a_25 * 8 ≤ bound by unfold bound; omega), cond_true, catf_zero]
    rw [pl_eq hp hv _ _ _ _ _ _ _ _ _ _ _ (by omega) (by omega)]
    cases hl : lrn a_6 a_5 a_9 a_8 a_25 a_26 a_13 a_15 a_16 a_17 a_18 a_19 a_20 a_22 with
    | none =>
      dsimp only
      rw [rl_eq hp hv, hl]
      dsimp only
      exact same_eq (EL.nil _) (EL.nil _) (Nat.zero_le _) _ _ (fun _ => rfl) _ _ _ _ _ _
    | some v =>
      dsimp only
      cases hgd : gd a_16 v a_13 with
      | false =>
        rw [learn_no (by omega) (.inl hgd)]
        rw [rl_eq hp hv, hl]
        dsimp only
        rw [rlearn_no (Nat.zero_le _) _ _ (.inl hgd)]
        exact same_eq (EL.nil _) (EL.nil _) (Nat.zero_le _) _ _ (fun _ => rfl) _ _ _ _ _ _
      | true =>
        obtain ⟨nl1, n1, f1, E1, z1, hh⟩ := learn_yes (EL.nil (fun _ _ => .val undef)) List.Pairwise.nil (by decide) (c := 0) (M := []) (by omega) hgd rfl true (fun _ => rfl)
        obtain ⟨nl2, n2, f2, E2, hr⟩ := rlearn_one (EL.nil (fun _ _ => .val undef)) List.Pairwise.nil (by decide) (sn := 0) (Nat.zero_le _) (fun _ _ => .val undef) (c := 0) hgd rfl true true
        have l1 : (learnL [] ⟨a_16, v, a_13, 0⟩).length ≤ 32 := length_learn (by decide) _
        rcases hh with hh | hh
        · rw [hh, rl_eq hp hv, hl]
          dsimp only
          refine Eq.trans (hr _ _) ?_
          exact same_eq E1 E2 (by omega) _ _ z1 _ _ _ _ _ _
        · rw [hh, rl_eq hp hv, hl]
          dsimp only
          refine Eq.trans (hr _ _) ?_
          exact same_eq (nl := false) E1 E2 (by omega) _ _ (fun h => Bool.noConfusion h) _ _ _ _ _ _
end Go.Proofs.Ytijabmpcicddbaa.PlaneLearns

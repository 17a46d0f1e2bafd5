/- What the code of VLANs comes to: frames that go out, members told. -/
import Derived.Test.YtijabmpcicddbaaVlanL1
set_option linter.unusedVariables false
set_option linter.unusedSimpArgs false
set_option maxHeartbeats 1000000
namespace Go.Proofs.Ytijabmpcicddbaa.VlanTells
open Go.Ve
open Mem (sortI rowI sortI_perm sortI_sorted sorted_uniq)
theorem u8_wraps : ∀ n : Int, 0 ≤ n → n < 2 ^ 8 → IntKind.u8.wrap n = n := fun n a b => u8_id a (by rw [p8] at b; exact b)
theorem tag_bit {tg : Int} (h0 : 0 ≤ tg) (h1 : tg ≤ 255) {p : Nat} (hp : p < 8) : (tagv tg (p : Int) == 1) = bitm tg (p : Int) := by
  have e : shrI .u8 tg (p : Int) = tg / (2 ^ p : Int) := shr_div .u8 tg p (by show p ≤ 8; omega)
  have hpos : (0 : Int) < 2 ^ p := Int.pow_pos (by decide)
  have hx0 : 0 ≤ tg / (2 ^ p : Int) := Int.ediv_nonneg h0 (Int.le_of_lt hpos)
  have hx1 : tg / (2 ^ p : Int) ≤ 255 := Int.le_trans (Int.ediv_le_self _ h0) h1
  have hm : bits .and .u8 (tg / (2 ^ p : Int)) 1 = tg / (2 ^ p : Int) % 2 := bits_mask .u8 8 (by decide) u8_wraps 1 (by decide) _ hx0 (by rw [p8]; omega)
  unfold tagv bitm
  rw [e, hm, i64_id (by omega) (by omega)]
/-- a frame that goes out: where its VLAN stands -/
def outV (pf : Nat → Nat → PV) (pn : Nat) (vf : Nat → Nat → PV) (vn : Nat) (v p : Int) : Option Nat :=
  bif decide (0 ≤ p ∧ p < pn) && (boolOf (pf p.toNat 0) && decide (1 ≤ v ∧ v ≤ 4094)) then
    match vi vf vn v with
    | some r => bif decide (p < 8) && bitm (numOf (vf r 1)) p then some r else none
    | none => none
  else none
theorem clone_b {α : Type} (bnl : Bool) {bn : Nat} (hb : bn ≤ 1000000) (bf : Nat → Nat → PV) (k0 : Bool → Nat → (Nat → Nat → PV) → Option α) : slices_Clone_byte bnl bn bf k0 = bif bnl then k0 true 0 (fun _ _ => .val undef) else k0 false bn bf := by
  unfold slices_Clone_byte slices_Clone_byte_T
  rw [catf_zero, Nat.zero_add, Nat.mul_one, ble_true (show bn ≤ bound by unfold bound; omega), cond_true]
theorem tagged_eq {α : Type} (d s : Int) (tag : Bool) (x y z : Int) (bnl : Bool) {bn : Nat} (hb : bn ≤ 1000000) (bf : Nat → Nat → PV) (v : Int) (h : 1 ≤ v ∧ v ≤ 4094) (k0 : (Nat → Nat → PV) → Option α) (k1 : Int → Int → Int → Int → Bool → Nat → (Nat → Nat → PV) → Option α) (k2 : Int → Int → Int → Int → Int → Bool → Nat → (Nat → Nat → PV) → Option α) :
    frame_Tagged d s tag x y z bnl bn bf v k0 k1 k2 = bif tag then (bif bnl then k2 d s x v z true 0 (fun _ _ => .val undef) else k2 d s x v z false bn bf) else (bif bnl then k1 d s v z true 0 (fun _ _ => .val undef) else k1 d s v z false bn bf) := by
  unfold frame_Tagged frame_Tagged_T
  rw [dec_f (by omega), cond_false, dec_f (by omega), cond_false, clone_b bnl hb, clone_b bnl hb]
  cases tag <;> rfl
theorem tagged_no {α : Type} (d s : Int) (tag : Bool) (x y z : Int) (bnl : Bool) (bn : Nat) (bf : Nat → Nat → PV) (v : Int) (h : ¬ (1 ≤ v ∧ v ≤ 4094)) (k0 : (Nat → Nat → PV) → Option α) (k1 : Int → Int → Int → Int → Bool → Nat → (Nat → Nat → PV) → Option α) (k2 : Int → Int → Int → Int → Int → Bool → Nat → (Nat → Nat → PV) → Option α) :
    frame_Tagged d s tag x y z bnl bn bf v k0 k1 k2 = k0 (fun _ _ => .val undef) := by
  unfold frame_Tagged frame_Tagged_T
  by_cases h1 : v < 1
  · rw [dec_t h1]; rfl
  · rw [dec_f h1, dec_t (by omega)]; rfl
theorem out_eq {pn vn bn : Nat} (hp : pn ≤ 1000000) (hv : vn ≤ 1000000) (hb : bn ≤ 1000000) (b1 b2 b3 : Int) (pnl : Bool) (pf : Nat → Nat → PV) (vnl : Bool) (vf : Nat → Nat → PV) (hvf : ∀ j, j < vn → 0 ≤ numOf (vf j 2) ∧ numOf (vf j 2) ≤ 255) (qnl : Bool) (qn : Nat) (qf : Nat → Nat → PV) (v p d s : Int) (tag : Bool) (x y z : Int) (bnl : Bool) (bf : Nat → Nat → PV) {α : Type}
    (k0 : (Nat → Nat → PV) → Option α) (k1 : Int → Int → Int → Int → Bool → Nat → (Nat → Nat → PV) → Option α) (k2 : Int → Int → Int → Bool → Nat → (Nat → Nat → PV) → Option α) (k3 : Int → Int → Int → Int → Int → Bool → Nat → (Nat → Nat → PV) → Option α) :
    vlan_Out b1 b2 b3 pnl pn pf vnl vn vf qnl qn qf v p d s tag x y z bnl bn bf k0 k1 k2 k3 = match outV pf pn vf vn v p with
      | none => k0 (fun _ _ => .val undef)
      | some r => bif bitm (numOf (vf r 2)) p then (bif tag then (bif bnl then k3 d s x v z true 0 (fun _ _ => .val undef) else k3 d s x v z false bn bf) else (bif bnl then k1 d s v z true 0 (fun _ _ => .val undef) else k1 d s v z false bn bf)) else (bif bnl then k2 d s z true 0 (fun _ _ => .val undef) else k2 d s z false bn bf) := by
  unfold vlan_Out vlan_Out_T outV
  rw [members_eq hp hv]
  by_cases hin : 0 ≤ p ∧ p < pn
  rotate_left
  · rw [memL_off vf vn pn v p hin, dec_f hin]; rfl
  rw [dec_t hin, Bool.true_and, memL_has vf vn pn v p hin.1 hin.2, up_eq, dec_t hin, Bool.true_and]
  unfold memP
  cases hq : vi vf vn v with
  | none =>
    cases (boolOf (pf p.toNat 0) && decide (1 ≤ v ∧ v ≤ 4094)) <;> rfl
  | some r =>
    have hr := (vi_at hq).1
    obtain ⟨t0, t1⟩ := hvf r hr
    dsimp only
    rw [dec_t hin.1, Bool.true_and]
    cases hm : (decide (p < 8) && bitm (numOf (vf r 1)) p) with
    | false =>
      cases (boolOf (pf p.toNat 0) && decide (1 ≤ v ∧ v ≤ 4094)) <;> rfl
    | true =>
      rw [cond_true]
      cases boolOf (pf p.toNat 0) with
      | false => rfl
      | true =>
        rw [Bool.not_true, cond_false, Bool.true_and]
        by_cases hvv : 1 ≤ v ∧ v ≤ 4094
        rotate_left
        · rw [tagged_no _ _ _ _ _ _ _ _ _ _ hvv, dec_f hvv]; rfl
        · rw [Bool.and_eq_true] at hm
          have h8 := of_decide_eq_true hm.1
          obtain ⟨k, rfl⟩ : ∃ k : Nat, p = (k : Int) := ⟨p.toNat, by omega⟩
          have hcell : numOf (mcell (memL vf vn pn v) [.val (.int .i64 (k : Int))] 0) = tagv (numOf (vf r 2)) (k : Int) := by
            unfold memL
            rw [hq]
            show numOf (mcell (mList _ _ pn) _ 0) = _
            rw [mcell_list _ _ _ k (by omega) (by unfold isM; rw [dec_t (by omega), hm.2]; rfl)]
            rfl
          rw [tagged_eq _ _ _ _ _ _ _ hb _ _ hvv, dec_t hvv, cond_true]
          rw [hcell, tag_bit t0 t1 (by omega), clone_b bnl hb]
          simp only [cond_true]
          cases bitm (numOf (vf r 2)) (k : Int) <;> cases tag <;> cases bnl <;> rfl
theorem rtagged_eq {α : Type} (d s : Int) (tag : Bool) (x y z : Int) (bnl : Bool) {bn : Nat} (hb : bn ≤ 1000000) (bf : Nat → Nat → PV) (v : Int) (h : 1 ≤ v ∧ v ≤ 4094) (k0 : (Nat → Nat → PV) → Option α) (k1 : Int → Int → Int → Int → Nat → (Nat → Nat → PV) → Option α) (k2 : Int → Int → Int → Int → Int → Nat → (Nat → Nat → PV) → Option α) :
    ref10_Tagged d s tag x y z bnl bn bf v k0 k1 k2 = bif tag then k2 d s x v z bn bf else k1 d s v z bn bf := by
  unfold ref10_Tagged ref10_Tagged_T
  rw [dec_f (by omega), cond_false, dec_f (by omega), cond_false, catf_zero, Nat.zero_add, Nat.mul_one, ble_true (show bn ≤ bound by unfold bound; omega), cond_true]
  cases tag <;> rfl
theorem rout_eq {pn vn bn : Nat} (hp : pn ≤ 1000000) (hv : vn ≤ 1000000) (hb : bn ≤ 1000000) (b1 b2 b3 : Int) (pnl : Bool) (pf : Nat → Nat → PV) (vnl : Bool) (vf : Nat → Nat → PV) (qnl : Bool) (qn : Nat) (qf : Nat → Nat → PV) (v p d s : Int) (tag : Bool) (x y z : Int) (bnl : Bool) (bf : Nat → Nat → PV) {α : Type}
    (k0 : Int → Int → Bool → Int → Int → Int → Bool → Bool → Nat → (Nat → Nat → PV) → Option α) :
    ref19_Out b1 b2 b3 pnl pn pf vnl vn vf qnl qn qf v p d s tag x y z bnl bn bf k0 = match outV pf pn vf vn v p with
      | none => k0 0 0 false 0 0 0 false true 0 (fun _ _ => .val undef)
      | some r => bif bitm (numOf (vf r 2)) p then (bif tag then k0 d s true x v z true false bn bf else k0 d s true 0 v z true false bn bf) else k0 d s false 0 0 z true false bn bf := by
  unfold ref19_Out ref19_Out_T outV
  rw [rvlan_eq hv]
  by_cases h0 : p < 0
  · rw [dec_t h0, dec_f (show ¬ (0 ≤ p ∧ p < pn) by omega)]; rfl
  by_cases h1 : p ≥ pn
  · rw [dec_f h0, dec_t h1, dec_f (show ¬ (0 ≤ p ∧ p < pn) by omega)]; rfl
  rw [dec_f h0, cond_false, dec_f h1, cond_false, inb_t (by omega) (by omega), cond_true, dec_t (show 0 ≤ p ∧ p < pn by omega), Bool.true_and]
  cases boolOf (pf p.toNat 0) with
  | false => rfl
  | true =>
    rw [Bool.not_true, cond_false, Bool.true_and]
    cases hq : vi vf vn v with
    | none =>
      rw [show decide ((-1 : Int) < 0) = true from rfl, cond_true]
      cases decide (1 ≤ v ∧ v ≤ 4094) <;> rfl
    | some r =>
      have hr := (vi_at hq).1
      dsimp only
      rw [dec_f (by omega), cond_false, inb_t (by omega) (by omega), cond_true, Int.toNat_natCast, rmember_eq _ _ _ p (by omega), dec_t (show 0 ≤ p by omega), Bool.true_and]
      cases hm : (decide (p < 8) && bitm (numOf (vf r 1)) p) with
      | false => cases decide (1 ≤ v ∧ v ≤ 4094) <;> rfl
      | true =>
        rw [Bool.not_true, cond_false]
        by_cases hv1 : v < 1
        · rw [dec_t hv1, dec_f (show ¬ (1 ≤ v ∧ v ≤ 4094) by omega)]; rfl
        by_cases hv2 : v > 4094
        · rw [dec_f hv1, dec_t hv2, dec_f (show ¬ (1 ≤ v ∧ v ≤ 4094) by omega)]; rfl
        rw [dec_f hv1, cond_false, dec_f hv2, cond_false, cond_true, u64_id (by omega) (by rw [Bool.and_eq_true] at hm; have := of_decide_eq_true hm.1; omega), dec_f h0, cond_false, dec_t (show 1 ≤ v ∧ v ≤ 4094 by omega), cond_true]
        rw [rtagged_eq _ _ _ _ _ _ _ hb _ _ (show 1 ≤ v ∧ v ≤ 4094 by omega), catf_zero, Nat.zero_add, Nat.mul_one, ble_true (show bn ≤ bound by unfold bound; omega), cond_true]
        simp only [cond_true]
        unfold bitm
        cases ((bits .and .u8 (shrI .u8 (numOf (vf r 2)) p) 1) == 1) <;> cases tag <;> rfl
/-! ### members, in order -/
def mNums (m : Int) (k : Nat) : List Int := ((List.range k).filter (isM m)).map fun p : Nat => (p : Int)
theorem mNums_succ (m : Int) (k : Nat) : mNums m (k + 1) = bif isM m k then mNums m k ++ [(k : Int)] else mNums m k := by
  unfold mNums
  rw [List.range_succ, List.filter_append, List.map_append, List.filter_cons]
  cases isM m k with
  | true => rfl
  | false => exact List.append_nil _
theorem keysI_list (m tg : Int) (k : Nat) : keysI (mList m tg k) = mNums m k := by
  unfold keysI mList mNums
  rw [List.map_map]
  rfl
theorem mNums_sorted (m : Int) (k : Nat) : (mNums m k).Pairwise (· ≤ ·) := by
  unfold mNums
  rw [List.pairwise_map]
  refine List.Pairwise.filter _ ?_
  exact List.pairwise_lt_range.imp fun h => by omega
theorem mNums_8 (m : Int) (k : Nat) (h : 8 ≤ k) : mNums m k = mNums m 8 := by
  induction k with
  | zero => omega
  | succ k ih =>
    rcases Nat.eq_or_lt_of_le h with e | h'
    · rw [← e]
    · rw [mNums_succ, show isM m k = false by unfold isM; rw [dec_f (by omega)]; rfl, cond_false]
      exact ih (by omega)
/-- a row of numbers -/
def NL (n : Nat) (f : Nat → Nat → PV) (L : List Int) : Prop := L.length = n ∧ ∀ j (h : j < L.length), numOf (f j 0) = L[j]
theorem NL.row (L : List Int) : NL L.length (rowI L) L := ⟨rfl, fun j h => by
  show numOf (.val (.int .i64 (L.getD j 0))) = _
  rw [List.getD_eq_getElem?_getD, List.getElem?_eq_getElem h]
  rfl⟩
theorem NL.snoc {n : Nat} {f : Nat → Nat → PV} {L : List Int} (h : NL n f L) (x : Int) : NL (n + 1) (catf n f (rowOf 1 [.val (.int .i64 x)])) (L ++ [x]) := by
  refine ⟨by rw [List.length_append, h.1]; rfl, fun j hj => ?_⟩
  have hn := h.1
  rw [List.length_append, List.length_singleton] at hj
  by_cases hl : j < L.length
  · rw [catf_lo (by omega), List.getElem_append_left hl]
    exact h.2 j hl
  · have e : j = n := by omega
    subst e
    have := catf_hi j f (rowOf 1 [.val (.int .i64 x)]) 0 0
    rw [Nat.add_zero] at this
    rw [this, List.getElem_append_right (by omega)]
    simp only [hn, Nat.sub_self]
    rfl
/-- the members of a VLAN, in order -/
def memN (vf : Nat → Nat → PV) (vn pn : Nat) (v : Int) : List Int := match vi vf vn v with | some j => mNums (numOf (vf j 1)) pn | none => []
theorem memRow_eq (vf : Nat → Nat → PV) (vn pn : Nat) (v : Int) : NL (memL vf vn pn v).length (memRow (memL vf vn pn v)) (memN vf vn pn v) ∧ (memL vf vn pn v).length ≤ pn := by
  unfold memRow
  have hk : keysI (memL vf vn pn v) = memN vf vn pn v := by
    unfold memL memN
    cases vi vf vn v with
    | none => rfl
    | some j => exact keysI_list _ _ _
  have hs : sortI (memN vf vn pn v) = memN vf vn pn v := sorted_uniq (sortI_perm _) (sortI_sorted _) (by
    unfold memN
    cases vi vf vn v with
    | none => exact List.Pairwise.nil
    | some j => exact mNums_sorted _ _)
  have hl : (memL vf vn pn v).length = (memN vf vn pn v).length := by rw [← hk]; unfold keysI; rw [List.length_map]
  rw [hk, hs, hl]
  refine ⟨NL.row _, ?_⟩
  unfold memN
  cases vi vf vn v with
  | none => exact Nat.zero_le _
  | some j =>
    show (mNums _ pn).length ≤ pn
    unfold mNums
    rw [List.length_map]
    exact Nat.le_trans (List.length_filter_le (isM (numOf (vf j 1))) (List.range pn)) (Nat.le_of_eq List.length_range)
theorem rmem_loop {pn vn : Nat} (hp : pn ≤ 1000000) (r : Nat) (hr : r < vn) (b1 b2 b3 : Int) (pnl : Bool) (pf : Nat → Nat → PV) (vnl : Bool) (vf : Nat → Nat → PV) (qnl : Bool) (qn : Nat) (qf : Nat → Nat → PV) : ∀ (d i fuel : Nat) (nl : Bool) (n : Nat) (f : Nat → Nat → PV), i + d = min pn 8 → d < fuel → n ≤ i → NL n f (mNums (numOf (vf r 1)) i) →
    ∃ nl' n' f', NL n' f' (mNums (numOf (vf r 1)) (min pn 8)) ∧ ∀ {α : Type} (k0 : Bool → Nat → (Nat → Nat → PV) → Option α), ref19_Members_L0_l0 k0 fuel (r : Int) (i : Int) b1 b2 b3 pnl pn pf vnl vn vf qnl qn qf nl n f = k0 nl' n' f'
  | 0, i, fuel + 1, nl, n, f, hd, hf, hn, hN => by
    obtain rfl : i = min pn 8 := by omega
    refine ⟨nl, n, f, hN, fun {α} k0 => ?_⟩
    show ref19_Members_L0_s0 _ _ k0 (r : Int) _ b1 b2 b3 pnl pn pf vnl vn vf qnl qn qf nl n f = _
    unfold ref19_Members_L0_s0
    rw [dec_t (by omega), cond_true]
    by_cases h : pn ≤ 8
    · rw [dec_f (by omega), cond_false]
    · rw [dec_t (by omega), cond_true, dec_f (by omega), cond_false]
  | d + 1, i, fuel + 1, nl, n, f, hd, hf, hn, hN => by
    have e : IntKind.i64.wrap ((i : Int) + 1) = ((i + 1 : Nat) : Int) := by rw [i64_id (by omega) (by omega)]; rfl
    have step : ∀ {α : Type} (k0 : Bool → Nat → (Nat → Nat → PV) → Option α), ref19_Members_L0_l0 k0 (fuel + 1) (r : Int) (i : Int) b1 b2 b3 pnl pn pf vnl vn vf qnl qn qf nl n f = bif isM (numOf (vf r 1)) i then ref19_Members_L0_l0 k0 fuel (r : Int) ((i + 1 : Nat) : Int) b1 b2 b3 pnl pn pf vnl vn vf qnl qn qf (nl && false) (n + 1) (catf n f (rowOf 1 [.val (.int .i64 (i : Int))])) else ref19_Members_L0_l0 k0 fuel (r : Int) ((i + 1 : Nat) : Int) b1 b2 b3 pnl pn pf vnl vn vf qnl qn qf nl n f := by
      intro α k0
      show ref19_Members_L0_s0 _ _ k0 (r : Int) (i : Int) b1 b2 b3 pnl pn pf vnl vn vf qnl qn qf nl n f = _
      unfold ref19_Members_L0_s0 isM
      rw [dec_t (by omega), cond_true, dec_t (by omega), cond_true, dec_t (by omega), cond_true, inb_t (by omega) (by omega), cond_true, rmember_eq _ _ _ (i : Int) (by omega), Int.toNat_natCast, dec_t (by omega), Bool.true_and, dec_t (show (i : Int) < 8 by omega), Bool.true_and, dec_t (show i < 8 by omega), Bool.true_and, ble_true (show (n + 1) * 8 ≤ bound by unfold bound; omega), cond_true, e]
    cases hm : isM (numOf (vf r 1)) i with
    | true =>
      obtain ⟨nl', n', f', hN', h⟩ := rmem_loop hp r hr b1 b2 b3 pnl pf vnl vf qnl qn qf d (i + 1) fuel (nl && false) (n + 1) _ (by omega) (by omega) (by omega) (by rw [mNums_succ, hm, cond_true]; exact hN.snoc (i : Int))
      exact ⟨nl', n', f', hN', fun {α} k0 => by rw [step, hm, cond_true]; exact h k0⟩
    | false =>
      obtain ⟨nl', n', f', hN', h⟩ := rmem_loop hp r hr b1 b2 b3 pnl pf vnl vf qnl qn qf d (i + 1) fuel nl n f (by omega) (by omega) (by omega) (by rw [mNums_succ, hm, cond_false]; exact hN)
      exact ⟨nl', n', f', hN', fun {α} k0 => by rw [step, hm, cond_false]; exact h k0⟩
theorem rmem_eq {pn vn : Nat} (hp : pn ≤ 1000000) (hv : vn ≤ 1000000) (b1 b2 b3 : Int) (pnl : Bool) (pf : Nat → Nat → PV) (vnl : Bool) (vf : Nat → Nat → PV) (qnl : Bool) (qn : Nat) (qf : Nat → Nat → PV) (v : Int) : ∃ nl' n' f', NL n' f' (memN vf vn pn v) ∧
    ∀ {α : Type} (k0 : Bool → Nat → (Nat → Nat → PV) → Option α), ref05_Vlan b1 b2 b3 pnl pn pf vnl vn vf qnl qn qf v (fun r => ref19_Members_L0 r b1 b2 b3 pnl pn pf vnl vn vf qnl qn qf (fun _ _ => .val undef) k0) = k0 nl' n' f' := by
  unfold memN
  cases hq : vi vf vn v with
  | none =>
    refine ⟨true, 0, (fun _ _ => .val undef), ⟨rfl, fun j h => absurd h (Nat.not_lt_zero j)⟩, fun {α} k0 => ?_⟩
    rw [rvlan_eq hv, hq]
    unfold ref19_Members_L0
    show ref19_Members_L0_s0 _ _ k0 (-1) 0 b1 b2 b3 pnl pn pf vnl vn vf qnl qn qf true 0 _ = _
    unfold ref19_Members_L0_s0
    rfl
  | some r =>
    have h0 : NL 0 (fun _ _ => .val undef) (mNums (numOf (vf r 1)) 0) := ⟨rfl, fun j h => absurd h (Nat.not_lt_zero j)⟩
    obtain ⟨nl', n', f', hN, h⟩ := rmem_loop hp r (vi_at hq).1 b1 b2 b3 pnl pf vnl vf qnl qn qf (min pn 8) 0 18446744073709551616 true 0 (fun _ _ => .val undef) (by omega) (by omega) (Nat.le_refl _) h0
    refine ⟨nl', n', f', ?_, fun {α} k0 => ?_⟩
    · show NL n' f' (mNums _ pn)
      by_cases h8 : pn ≤ 8
      · rw [Nat.min_eq_left h8] at hN; exact hN
      · rw [Nat.min_eq_right (by omega)] at hN; rw [mNums_8 _ _ (by omega)]; exact hN
    · rw [rvlan_eq hv, hq]
      unfold ref19_Members_L0
      exact h k0
theorem ints_loop {L : List Int} {an : Nat} {af : Nat → Nat → PV} (hA : NL an af L) {bn : Nat} {bf : Nat → Nat → PV} (hB : NL bn bf L) (hn : L.length ≤ 1000000) (anl bnl : Bool) : ∀ (d i fuel : Nat), i + d = L.length → d < fuel → ∀ {α : Type} (k0 k1 : Bool → Nat → (Nat → Nat → PV) → Bool → Nat → (Nat → Nat → PV) → Option α),
    keep_Ints_L0_l0 k0 k1 fuel (i : Int) anl an af bnl bn bf = k1 anl an af bnl bn bf
  | 0, i, fuel + 1, hd, hf, α, k0, k1 => by
    have h1 := hA.1
    show keep_Ints_L0_s0 _ k0 k1 (i : Int) anl an af bnl bn bf = _
    unfold keep_Ints_L0_s0
    rw [dec_f (by omega), cond_false]
  | d + 1, i, fuel + 1, hd, hf, α, k0, k1 => by
    have h1 := hA.1
    have h2 := hB.1
    have hlt : i < L.length := by omega
    show keep_Ints_L0_s0 _ k0 k1 (i : Int) anl an af bnl bn bf = _
    unfold keep_Ints_L0_s0
    rw [dec_t (by omega), cond_true, inb_t (by omega) (by omega), cond_true, inb_t (by omega) (by omega), cond_true, Int.toNat_natCast, hA.2 i hlt, hB.2 i hlt, bne_self_eq_false, cond_false, i64_id (by omega) (by omega)]
    exact ints_loop hA hB hn anl bnl d (i + 1) fuel (by omega) (by omega) k0 k1
theorem ints_eq {L : List Int} {an : Nat} {af : Nat → Nat → PV} (hA : NL an af L) {bn : Nat} {bf : Nat → Nat → PV} (hB : NL bn bf L) (hn : L.length ≤ 1000000) (anl bnl : Bool) {α : Type} (k0 k1 : Bool → Nat → (Nat → Nat → PV) → Bool → Nat → (Nat → Nat → PV) → Option α) :
    keep_Ints anl an af bnl bn bf k0 k1 = k1 anl an af bnl bn bf := by
  have h1 := hA.1
  have h2 := hB.1
  unfold keep_Ints keep_Ints_T
  rw [show (((an : Nat) : Int) != ((bn : Nat) : Int)) = false by rw [show an = bn by omega]; exact bne_self_eq_false _, cond_false]
  unfold keep_Ints_L0
  exact ints_loop hA hB hn anl bnl L.length 0 18446744073709551616 (by omega) (by omega) k0 k1
theorem frames_eq (d s : Int) (tag : Bool) (x y z : Int) (anl : Bool) (an : Nat) (af : Nat → Nat → PV) (bnl : Bool) (bn : Nat) (bf : Nat → Nat → PV) (h : strOf an af = strOf bn bf) {α : Type} (k0 : Bool → Option α) : keep_Frames d s tag x y z anl an af d s tag x y z bnl bn bf k0 = k0 true := by
  unfold keep_Frames keep_Frames_T
  rw [h, beq_self_eq_true, beq_self_eq_true, beq_self_eq_true, beq_self_eq_true, beq_self_eq_true, beq_self_eq_true, beq_self_eq_true]
  rfl
end Go.Proofs.Ytijabmpcicddbaa.VlanTells

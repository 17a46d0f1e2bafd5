/- FdbPlays: what the code comes to answers true. -/
import Derived.Test.YtampnnhdgnhjaaaFdbPlaysL
set_option linter.unusedVariables false
set_option linter.unusedSimpArgs false
set_option maxHeartbeats 1000000
namespace Go.Proofs.Ytampnnhdgnhjaaa.FdbPlays
open Go.Ve
/-- statics of both sides say the same -/
structure StOk (M : MapL) (sn : Nat) (sf : Nat → Nat → PV) : Prop where
  n : sn ≤ 1000000
  h : ∀ v m, mhas M (skey v m) = (stF sf v m sn).isSome
  c : ∀ v m r, stF sf v m sn = some r → numOf (mcell M (skey v m) 0) = numOf (sf r 2)
theorem StOk.nil (sf : Nat → Nat → PV) : StOk [] 0 sf := ⟨by decide, fun _ _ => rfl, fun v m r h => nomatch h⟩
theorem StOk.stat (f : Nat → Nat → PV) (n : Nat) (hn : n ≤ 1000000) : StOk (statL f n []) n f := ⟨hn, fun v m => by
    rw [stat_has]; exact Bool.or_false _, fun v m r h => by
    unfold mcell
    rw [stat_cell, h]
    rfl⟩
structure PInv (c : Int) (M : MapL) (nl : Bool) (n : Nat) (f : Nat → Nat → PV) (sn : Nat) (sf : Nat → Nat → PV) (ln : Nat) (lf : Nat → Nat → PV) (L : List En) : Prop where
  e : EL n f L
  r : EL ln lf L
  t : TabOk c L
  z : nl = true → n = 0
  s : StOk M sn sf
theorem PInv.le {c : Int} {M : MapL} {nl : Bool} {n : Nat} {f : Nat → Nat → PV} {sn : Nat} {sf : Nat → Nat → PV} {ln : Nat} {lf : Nat → Nat → PV} {L : List En} (h : PInv c M nl n f sn sf ln lf L) : n ≤ 32 ∧ ln ≤ 32 := ⟨by rw [← h.e.n]; exact h.t.n, by rw [← h.r.n]; exact h.t.n⟩
theorem ticks {K : Nat} (hK : K < 320) {xN : Int} (hx : (IntKind.i64.wrap ((xN.tmod 320) + 320)).tmod 320 = (K : Int)) (ro : Bool) (N : Nat) (row : Nat → Nat → PV) (i : Int) (x0 x1 x2 x4 : Int) (pnl : Bool) (pn : Nat) (pf : Nat → Nat → PV) (qnl : Bool) (qn : Nat) (qf : Nat → Nat → PV) (M : MapL) (nl snl : Bool) (sn : Nat) (sf : Nat → Nat → PV) : ∀ (d k fuel : Nat) (c : Int) (n : Nat) (f : Nat → Nat → PV) (lnl : Bool) (ln : Nat) (lf : Nat → Nat → PV) (L : List En), k + d = K → d < fuel → PInv c M nl n f sn sf ln lf L →
    ∃ c' n' f' lnl' ln' lf' L', PInv c' M nl n' f' sn sf ln' lf' L' ∧ ∀ {α : Type} (k0 : Bool → Nat → (Nat → Nat → PV) → Int → Int → Int → MapL → Bool → Nat → (Nat → Nat → PV) → Bool → Nat → (Nat → Nat → PV) → Bool → Nat → (Nat → Nat → PV) → Option α),
      law18_FdbPlays_L3_v1_l0 k0 fuel ro N row i (k : Int) c c x0 x1 x2 xN x4 pnl pn pf qnl qn qf M nl n f snl sn sf lnl ln lf = k0 ro N row i c' c' M nl n' f' snl sn sf lnl' ln' lf'
  | 0, k, fuel + 1, c, n, f, lnl, ln, lf, L, hd, hf, hI => by
    obtain rfl : k = K := by omega
    refine ⟨c, n, f, lnl, ln, lf, L, hI, fun {α} k0 => ?_⟩
    show law18_FdbPlays_L3_v1_s0 _ _ _ k0 ro N row i (k : Int) c c x0 x1 x2 xN x4 pnl pn pf qnl qn qf M nl n f snl sn sf lnl ln lf = _
    unfold law18_FdbPlays_L3_v1_s0
    rw [hx, dec_f (Int.lt_irrefl _), cond_false]
  | d + 1, k, fuel + 1, c, n, f, lnl, ln, lf, L, hd, hf, hI => by
    obtain ⟨n1, f1, E1, z1, ht⟩ := tick_one hI.e hI.t nl M hI.z
    obtain ⟨lnl1, ln1, lf1, R1, hr⟩ := rtick_one hI.r hI.t snl lnl sn sf
    obtain ⟨c', n', f', lnl', ln', lf', L', hI', h⟩ := ticks hK hx ro N row i x0 x1 x2 x4 pnl pn pf qnl qn qf M nl snl sn sf d (k + 1) fuel (tickL c L).1 n1 f1 lnl1 ln1 lf1 (tickL c L).2 (by omega) (by omega) ⟨E1, R1, hI.t.tick, z1, hI.s⟩
    refine ⟨c', n', f', lnl', ln', lf', L', hI', fun {α} k0 => ?_⟩
    show law18_FdbPlays_L3_v1_s0 _ _ _ k0 ro N row i (k : Int) c c x0 x1 x2 xN x4 pnl pn pf qnl qn qf M nl n f snl sn sf lnl ln lf = _
    unfold law18_FdbPlays_L3_v1_s0
    rw [hx, dec_t (by omega), cond_true]
    refine Eq.trans (ht _) ?_
    refine Eq.trans (hr _) ?_
    rw [i64_id (by omega) (by omega)]
    exact h k0
theorem play {N : Nat} (hN : N ≤ 1000000) (ro : Bool) (row : Nat → Nat → PV) (hr : ∀ j, j < N → 0 ≤ numOf (row j 4) ∧ lenOf (row j 5) ≤ 30 ∧ lenOf (row j 6) ≤ 40) : ∀ (d i fuel : Nat) (c : Int) (M : MapL) (nl : Bool) (n : Nat) (f : Nat → Nat → PV) (snl : Bool) (sn : Nat) (sf : Nat → Nat → PV) (lnl : Bool) (ln : Nat) (lf : Nat → Nat → PV) (L : List En), i + d = N → d < fuel → PInv c M nl n f sn sf ln lf L →
    ∀ {α : Type} (k0 k1 : Option α), law18_FdbPlays_L0_l0 k0 k1 fuel ro N row (i : Int) c c M nl n f snl sn sf lnl ln lf = k1
  | 0, i, fuel + 1, c, M, nl, n, f, snl, sn, sf, lnl, ln, lf, L, hd, hf, hI, α, k0, k1 => by
    obtain rfl : i = N := by omega
    show law18_FdbPlays_L0_s0 _ _ _ _ _ _ _ _ _ k0 k1 ro i row (i : Int) c c M nl n f snl sn sf lnl ln lf = _
    unfold law18_FdbPlays_L0_s0
    rw [dec_f (Int.lt_irrefl _), cond_false]
  | d + 1, i, fuel + 1, c, M, nl, n, f, snl, sn, sf, lnl, ln, lf, L, hd, hf, hI, α, k0, k1 => by
    obtain ⟨r4, r5, r6⟩ := hr i (by omega)
    obtain ⟨hn, hln⟩ := hI.le
    have hL32 := hI.t.n
    have e : IntKind.i64.wrap ((i : Int) + 1) = ((i + 1 : Nat) : Int) := by rw [i64_id (by omega) (by omega)]; rfl
    have ih := fun c M nl n f snl sn sf lnl ln lf L h => play hN ro row hr d (i + 1) fuel c M nl n f snl sn sf lnl ln lf L (by omega) (by omega) h k0 k1
    -- behind each call: both are the same
    have done : ∀ (c : Int) (M : MapL) (nl : Bool) (n : Nat) (f : Nat → Nat → PV) (snl : Bool) (sn : Nat) (sf : Nat → Nat → PV) (lnl : Bool) (ln : Nat) (lf : Nat → Nat → PV) (L : List En), PInv c M nl n f sn sf ln lf L →
        law18_Same c c M nl n f snl sn sf lnl ln lf (fun _ _ _ _ _ _ _ _ _ _ _ _ => k0) (fun r_29 r_30 r_31 r_32 r_33 r_34 r_35 r_36 r_37 r_38 r_39 r_40 => law18_FdbPlays_L0_l0 k0 k1 fuel ro N row (IntKind.i64.wrap ((i : Int) + 1)) r_29 r_30 r_31 r_32 r_33 r_34 r_35 r_36 r_37 r_38 r_39 r_40) = k1 := fun c M nl n f snl sn sf lnl ln lf L h => by
      have hl := h.t.n
      rw [same_eq h.e h.r (by omega) c M h.z snl sn sf lnl, e]
      exact ih c M nl n f snl sn sf lnl ln lf L h
    show law18_FdbPlays_L0_s0 _ _ _ _ _ _ _ _ _ k0 k1 ro N row (i : Int) c c M nl n f snl sn sf lnl ln lf = _
    unfold law18_FdbPlays_L0_s0
    rw [dec_t (by omega), cond_true, inb_t (by omega) (by omega), cond_true, Int.toNat_natCast]
    have hs := hI.s.h (numOf (row i 1)) (numOf (row i 4))
    cases q0 : ((numOf (row i 0)) == 0) with
    | true =>
      rw [cond_true]
      by_cases hg : gd (numOf (row i 4)) (numOf (row i 1)) (numOf (row i 2)) = true ∧ stF sf (numOf (row i 1)) (numOf (row i 4)) sn = none
      · obtain ⟨nl1, n1, f1, E1, z1, hl⟩ := learn_one hI.e hI.t.s hn c (M := M) r4 hg.1 (by rw [show [PV.val (.int .i64 (numOf (row i 1))), PV.val (.int .u64 (numOf (row i 4)))] = skey (numOf (row i 1)) (numOf (row i 4)) from rfl, hs, hg.2]; rfl) nl hI.z
        obtain ⟨lnl1, ln1, lf1, R1, hrl⟩ := rlearn_one hI.r hI.t.s hln hI.s.n sf c hg.1 hg.2 snl lnl
        refine Eq.trans (hl _ _) ?_
        refine Eq.trans (hrl _ _) ?_
        exact done c M nl1 n1 f1 snl sn sf lnl1 ln1 lf1 _ ⟨E1, R1, hI.t.learn rfl, z1, hI.s⟩
      · have h1 : gd (numOf (row i 4)) (numOf (row i 1)) (numOf (row i 2)) = false ∨ ∃ r, stF sf (numOf (row i 1)) (numOf (row i 4)) sn = some r := by
          cases hq : gd (numOf (row i 4)) (numOf (row i 1)) (numOf (row i 2)) with
          | false => exact .inl rfl
          | true =>
            cases hq2 : stF sf (numOf (row i 1)) (numOf (row i 4)) sn with
            | none => exact absurd ⟨hq, hq2⟩ hg
            | some r => exact .inr ⟨r, rfl⟩
        refine Eq.trans (learn_no r4 (h1.imp id fun ⟨r, h2⟩ => by
          show mhas M (skey (numOf (row i 1)) (numOf (row i 4))) = true
          rw [hs, h2]; rfl) nl n f _ _ _) ?_
        refine Eq.trans (rlearn_no hI.s.n sf c h1 snl lnl ln lf _ _ _) ?_
        exact done c M nl n f snl sn sf lnl ln lf L hI
    | false =>
    rw [cond_false]
    cases q1 : ((numOf (row i 0)) == 1) with
    | true =>
      rw [cond_true]
      cases hst : stF sf (numOf (row i 1)) (numOf (row i 4)) sn with
      | some r =>
        rw [hst] at hs
        refine Eq.trans (look_static (m := numOf (row i 4)) (v := numOf (row i 1)) hs nl n f _ _) ?_
        refine Eq.trans (rlook_static hI.s.n sf _ _ c snl lnl ln lf hst _ _) ?_
        have hp : numOf (mcell M [.val (.int .i64 (numOf (row i 1))), .val (.int .u64 (numOf (row i 4)))] 0) = numOf (sf r 2) := hI.s.c _ _ r hst
        rw [hp, bne_self_eq_false, cond_false]
        exact done c M nl n f snl sn sf lnl ln lf L hI
      | none =>
        rw [hst] at hs
        cases hfd : findL L (numOf (row i 1)) (numOf (row i 4)) with
        | some x =>
          refine Eq.trans (look_some hI.e hI.t.s (by omega) hs nl hfd _ _) ?_
          refine Eq.trans (rlook_some hI.r hI.t.s (by omega) hI.s.n sf c snl lnl hst hfd _ _) ?_
          rw [bne_self_eq_false, cond_false]
          exact done c M nl n f snl sn sf lnl ln lf L hI
        | none =>
          refine Eq.trans (look_none hI.e hI.t.s (by omega) hs nl hfd _ _) ?_
          refine Eq.trans (rlook_none hI.r hI.t.s (by omega) hI.s.n sf c snl lnl hst hfd _ _) ?_
          exact done c M nl n f snl sn sf lnl ln lf L hI
    | false =>
    rw [cond_false]
    cases q2 : ((numOf (row i 0)) == 2) with
    | true =>
      rw [cond_true]
      have hb := Int.tmod_lt_of_pos (numOf (row i 3)) (show (0 : Int) < 320 by decide)
      have hb2 := Int.lt_tmod_of_pos (numOf (row i 3)) (show (0 : Int) < 320 by decide)
      have hw : IntKind.i64.wrap ((numOf (row i 3)).tmod 320 + 320) = (numOf (row i 3)).tmod 320 + 320 := i64_id (by omega) (by omega)
      obtain ⟨K, hK, hx⟩ : ∃ K : Nat, K < 320 ∧ (IntKind.i64.wrap (((numOf (row i 3)).tmod 320) + 320)).tmod 320 = (K : Int) := by
        rw [hw, Int.tmod_eq_emod_of_nonneg (by omega)]
        exact ⟨(((numOf (row i 3)).tmod 320 + 320) % 320).toNat, by omega, by omega⟩
      obtain ⟨c', n', f', lnl', ln', lf', L', hI', h⟩ := ticks hK hx ro N row (i : Int) (numOf (row i 0)) (numOf (row i 1)) (numOf (row i 2)) (numOf (row i 4)) (nlOf (row i 5)) (lenOf (row i 5)) (fnOf (row i 5)) (nlOf (row i 6)) (lenOf (row i 6)) (fnOf (row i 6)) M nl snl sn sf K 0 18446744073709551616 c n f lnl ln lf L (by omega) (by omega) hI
      unfold law18_FdbPlays_L3_v1
      refine Eq.trans (h _) ?_
      exact done c' M nl n' f' snl sn sf lnl' ln' lf' L' hI'
    | false =>
    rw [cond_false]
    cases q3 : ((numOf (row i 0)) == 3) with
    | true =>
      rw [cond_true, catf_zero, Nat.zero_add, ble_true (show lenOf (row i 5) * 8 ≤ bound by unfold bound; omega), cond_true]
      obtain ⟨n1, f1, E1, z1, h1⟩ := flush_one hI.e (by omega) c nl M hI.z false (lenOf (row i 5)) (fnOf (row i 5)) (by omega)
      obtain ⟨lnl1, ln1, lf1, R1, h2⟩ := rflush_one (pn := lenOf (row i 5)) (by omega) (nlOf (row i 5)) (fnOf (row i 5)) hI.r (by omega) c snl lnl sn sf
      refine Eq.trans (h1 _) ?_
      refine Eq.trans (h2 _) ?_
      exact done c M nl n1 f1 snl sn sf lnl1 ln1 lf1 _ ⟨E1, R1, hI.t.filter _, z1, hI.s⟩
    | false =>
    rw [cond_false]
    cases q4 : ((numOf (row i 0)) == 4) with
    | true =>
      have hb : Nat.ble (lenOf (row i 6) * 24) bound = true := ble_true (by unfold bound; omega)
      rw [cond_true, catf_zero, Nat.zero_add, hb, cond_true, cond_true, cond_true]
      exact done c _ nl n f false _ _ lnl ln lf L ⟨hI.e, hI.r, hI.t, hI.z, StOk.stat _ _ (by omega)⟩
    | false =>
      rw [cond_false]
      exact done c M nl n f snl sn sf lnl ln lf L hI
/-! ### are the calls fair? -/
theorem fair_loop {N : Nat} (hN : N ≤ 18446744073709551615) (ro : Bool) (row : Nat → Nat → PV) : ∀ (d i fuel : Nat), i + d = N → d < fuel → i + d ≤ 9223372036854775807 → (∀ {α : Type} (k0 : Option α) (k1 : Bool → Nat → (Nat → Nat → PV) → Option α), law18_fair_L0_l0 k0 k1 fuel ro N row (i : Int) = k0) ∨
    ((∀ j, i ≤ j → j < N → lenOf (row j 5) ≤ 30 ∧ lenOf (row j 6) ≤ 40) ∧ ∀ {α : Type} (k0 : Option α) (k1 : Bool → Nat → (Nat → Nat → PV) → Option α), law18_fair_L0_l0 k0 k1 fuel ro N row (i : Int) = k1 ro N row)
  | 0, i, fuel + 1, hd, hf, hb => by
    obtain rfl : i = N := by omega
    refine .inr ⟨fun j h1 h2 => by omega, fun {α} k0 k1 => ?_⟩
    show law18_fair_L0_s0 _ k0 k1 ro i row (i : Int) = _
    unfold law18_fair_L0_s0
    rw [dec_f (Int.lt_irrefl _), cond_false]
  | d + 1, i, fuel + 1, hd, hf, hb => by
    have step : ∀ {α : Type} (k0 : Option α) (k1 : Bool → Nat → (Nat → Nat → PV) → Option α), law18_fair_L0_l0 k0 k1 (fuel + 1) ro N row (i : Int) = bif decide (((lenOf (row i 5) : Nat) : Int) > 30) then k0 else bif decide (((lenOf (row i 6) : Nat) : Int) > 40) then k0 else law18_fair_L0_l0 k0 k1 fuel ro N row ((i + 1 : Nat) : Int) := by
      intro α k0 k1
      show law18_fair_L0_s0 _ k0 k1 ro N row (i : Int) = _
      unfold law18_fair_L0_s0
      rw [dec_t (by omega), cond_true, inb_t (by omega) (by omega), cond_true, cond_true, Int.toNat_natCast, i64_id (by omega) (by omega)]
      rfl
    by_cases h5 : ((lenOf (row i 5) : Nat) : Int) > 30
    · exact .inl fun {α} k0 k1 => by rw [step, dec_t h5]; rfl
    · by_cases h6 : ((lenOf (row i 6) : Nat) : Int) > 40
      · exact .inl fun {α} k0 k1 => by rw [step, dec_f h5, dec_t h6]; rfl
      · rcases fair_loop hN ro row d (i + 1) fuel (by omega) (by omega) (by omega) with h | ⟨h1, h⟩
        · exact .inl fun {α} k0 k1 => by rw [step, dec_f h5, dec_f h6]; exact h k0 k1
        · refine .inr ⟨fun j hj1 hj2 => ?_, fun {α} k0 k1 => by rw [step, dec_f h5, dec_f h6]; exact h k0 k1⟩
          rcases Nat.eq_or_lt_of_le hj1 with rfl | hj
          · omega
          · exact h1 j hj hj2
theorem main {α : Type} (a_1 : Bool) (a_2 : Nat) (a_3 : Nat → Nat → PV) (h_1 : PvOk (.sl a_1 (.int .i64 (.int .i64 (.int .i64 (.int .i64 (.int .u64 (.sl (.int .i64 .nil) 1 (.sl (.int .u64 (.int .i64 (.int .i64 .nil))) 3 .nil))))))) 7 a_2 a_3)) (k_1 : RowK (.int .i64 (.int .i64 (.int .i64 (.int .i64 (.int .u64 (.sl (.int .i64 .nil) 1 (.sl (.int .u64 (.int .i64 (.int .i64 .nil))) 3 .nil))))))) a_2 a_3) (k0 k1 : Option α) : law18_FdbPlays a_1 a_2 a_3 k0 k1 = k0 := by
  have hlen := (pv_sl h_1).1
  have hmax : maxLen = 9223372036854775807 := by decide
  unfold law18_FdbPlays law18_FdbPlays_T law18_fair law18_fair_T law18_fair_L0
  by_cases h200 : a_2 ≤ 200
  · rcases fair_loop (N := a_2) (by omega) a_1 a_3 a_2 0 18446744073709551616 (by omega) (by omega) (by omega) with h | ⟨hf, h⟩
    · refine Eq.trans (h _ _) ?_
      rfl
    · refine Eq.trans (h _ _) ?_
      rw [dec_t (show (a_2 : Int) ≤ 200 by omega)]
      unfold law18_FdbPlays_L0
      refine play (N := a_2) (by omega) a_1 a_3 (fun j hj => ⟨?_, hf j (Nat.zero_le j) hj⟩) a_2 0 18446744073709551616 0 [] true 0 (fun _ _ => .val undef) true 0 (fun _ _ => .val undef) true 0 (fun _ _ => .val undef) [] (by omega) (by omega) ⟨EL.nil _, EL.nil _, TabOk.nil, fun _ => rfl, StOk.nil _⟩ k1 k0
      have h1 := (pv_sl h_1).2.2 j hj 4 (by decide)
      obtain ⟨m, hm⟩ := k_1 j hj 4
      rw [hm] at h1 ⊢
      exact (pv_u64 h1).1
  · rcases fair_loop (N := a_2) (by omega) a_1 a_3 a_2 0 18446744073709551616 (by omega) (by omega) (by omega) with h | ⟨hf, h⟩
    · refine Eq.trans (h _ _) ?_
      rfl
    · refine Eq.trans (h _ _) ?_
      rw [dec_f (show ¬ (a_2 : Int) ≤ 200 by omega)]
      rfl
end Go.Proofs.Ytampnnhdgnhjaaa.FdbPlays

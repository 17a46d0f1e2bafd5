/- FdbFlushes: what the code comes to answers true. -/
import Derived.Test.YtampnnhdgnhjaaaFdbFlushesL
set_option linter.unusedVariables false
set_option linter.unusedSimpArgs false
set_option maxHeartbeats 1000000
namespace Go.Proofs.Ytampnnhdgnhjaaa.FdbFlushes
open Go.Ve
def M1 : MapL := [([.val (.int .i64 1), .val (.int .u64 999)], [.val (.int .i64 0)])]
theorem M1_eq : statL (rowOf 3 [.val (.int .u64 999), .val (.int .i64 1), .val (.int .i64 0)]) 1 [] = M1 := rfl
theorem M1_has (v m : Int) : mhas M1 [.val (.int .i64 v), .val (.int .u64 m)] = (decide (v = 1) && decide (m = 999)) := by
  show (keyEq _ _ || false) = _
  rw [keyEq2, Bool.or_false]
theorem M1_cell : mcell M1 [.val (.int .i64 1), .val (.int .u64 999)] 0 = .val (.int .i64 0) := by
  show (bif keyEq _ _ then _ else _ : List PV).getD 0 _ = _
  rw [keyEq2, dec_t (rfl : (999 : Int) = 999), dec_t (rfl : (1 : Int) = 1)]
  rfl
structure Inv (L : List En) (i : Nat) : Prop where
  t : TabOk 0 L
  p : ∀ e ∈ L, 0 ≤ e.port ∧ e.port < 8
theorem loop0 {N : Nat} (hN : N ≤ 30) (ro : Bool) (row : Nat → Nat → PV) (hr : ∀ j, j < N → 0 ≤ numOf (row j 0) ∧ numOf (row j 0) ≤ 255) (a : Int) : ∀ (d i fuel : Nat) (nl : Bool) (n : Nat) (f : Nat → Nat → PV) (L : List En), i + d = N → d < fuel → EL n f L → (nl = true → n = 0) → Inv L i → ∃ nl' n' f' L', EL n' f' L' ∧ (nl' = true → n' = 0) ∧ Inv L' N ∧
    ∀ {α : Type} (k0 : Option α) (k1 : Int → Int → MapL → Bool → Nat → (Nat → Nat → PV) → Option α), law18_FdbFlushes_L0_l0 k0 k1 fuel ro N row a (i : Int) 0 M1 nl n f = k1 a 0 M1 nl' n' f'
  | 0, i, fuel + 1, nl, n, f, L, hd, hf, hE, hz, hI => by
    obtain rfl : i = N := by omega
    refine ⟨nl, n, f, L, hE, hz, hI, fun {α} k0 k1 => ?_⟩
    show law18_FdbFlushes_L0_s0 _ _ k0 k1 ro i row a (i : Int) 0 M1 nl n f = _
    unfold law18_FdbFlushes_L0_s0
    rw [dec_f (Int.lt_irrefl _), cond_false]
  | d + 1, i, fuel + 1, nl, n, f, L, hd, hf, hE, hz, hI => by
    obtain ⟨b0, b1⟩ := hr i (by omega)
    have e1 : IntKind.u64.wrap ((IntKind.u64.wrap (numOf (row i 0))) + 1) = numOf (row i 0) + 1 := by rw [u64_id (n := numOf (row i 0)) (by omega) (by omega), u64_id (by omega) (by omega)]
    have e2 : (IntKind.i64.wrap (numOf (row i 0))).tmod 8 = numOf (row i 0) % 8 := by rw [i64_id (by omega) (by omega), Int.tmod_eq_emod_of_nonneg (by omega)]
    have hM : mhas M1 [.val (.int .i64 1), .val (.int .u64 (numOf (row i 0) + 1))] = false := by rw [M1_has, dec_f (show ¬ numOf (row i 0) + 1 = 999 by omega), Bool.and_false]
    obtain ⟨nl1, n1, f1, E1, z1, hl⟩ := learn_one hE hI.t.s (by rw [← hE.n]; exact hI.t.n) (m := numOf (row i 0) + 1) (v := 1) (p := numOf (row i 0) % 8) (c := 0) (M := M1) (by omega) (gd_small (by omega) (by omega) (by decide) (by decide) (by omega) (by omega)) hM nl hz
    have hI1 : Inv (learnL L ⟨numOf (row i 0) + 1, 1, numOf (row i 0) % 8, 0⟩) (i + 1) := ⟨hI.t.learn rfl, fun e he => by
      rcases mem_learn he with rfl | h
      · show 0 ≤ numOf (row i 0) % 8 ∧ numOf (row i 0) % 8 < 8
        omega
      · exact hI.p e h⟩
    obtain ⟨nl', n', f', L', hE', hz', hI', h⟩ := loop0 hN ro row hr a d (i + 1) fuel nl1 n1 f1 _ (by omega) (by omega) E1 z1 hI1
    refine ⟨nl', n', f', L', hE', hz', hI', fun {α} k0 k1 => ?_⟩
    show law18_FdbFlushes_L0_s0 _ _ k0 k1 ro N row a (i : Int) 0 M1 nl n f = _
    unfold law18_FdbFlushes_L0_s0
    rw [dec_t (by omega), cond_true, inb_t (by omega) (by omega), cond_true, cond_true, Int.toNat_natCast, e1, e2]
    refine Eq.trans (hl _ _) ?_
    have e : IntKind.i64.wrap ((i : Int) + 1) = ((i + 1 : Nat) : Int) := by rw [i64_id (by omega) (by omega)]; rfl
    show law18_FdbFlushes_L0_l0 k0 k1 fuel ro N row a (IntKind.i64.wrap ((i : Int) + 1)) 0 M1 nl1 n1 f1 = _
    rw [e]
    exact h k0 k1
/-- a bit of the ports -/
def bitb (a x : Int) : Bool := (bits .and .u8 (shrI .u8 a (IntKind.u64.wrap x)) 1) == 1
theorem hasP_snoc (f : Nat → Nat → PV) (n : Nat) (y x : Int) : hasP (catf n f (rowOf 1 [.val (.int .i64 y)])) (n + 1) x = (hasP f n x || (x == y)) := by
  unfold hasP
  rw [List.range_succ, List.any_append]
  congr 1
  · rw [Bool.eq_iff_iff, List.any_eq_true, List.any_eq_true]
    constructor
    · rintro ⟨j, hj, h⟩
      rw [catf_lo (List.mem_range.1 hj)] at h
      exact ⟨j, hj, h⟩
    · rintro ⟨j, hj, h⟩
      refine ⟨j, hj, ?_⟩
      rw [catf_lo (List.mem_range.1 hj)]
      exact h
  · have : catf n f (rowOf 1 [.val (.int .i64 y)]) n 0 = .val (.int .i64 y) := by
      have := catf_hi n f (rowOf 1 [.val (.int .i64 y)]) 0 0
      rw [Nat.add_zero] at this
      rw [this]; rfl
    simp only [List.any_cons, List.any_nil, Bool.or_false, this]
    rfl
theorem loop2 (a : Int) (wnl : Bool) (wn : Nat) (wf : Nat → Nat → PV) (c : Int) (M : MapL) (nl : Bool) (n : Nat) (f : Nat → Nat → PV) : ∀ (d i fuel : Nat) (pnl : Bool) (pn : Nat) (pf : Nat → Nat → PV), i + d = 8 → d < fuel → pn ≤ i → (∀ x : Int, 0 ≤ x → hasP pf pn x = (decide (x < i) && bitb a x)) → ∃ pnl' pn' pf', pn' ≤ 8 ∧ (∀ x : Int, 0 ≤ x → x < 8 → hasP pf' pn' x = bitb a x) ∧
    ∀ {α : Type} (k0 : Int → Int → Bool → Nat → (Nat → Nat → PV) → Bool → Nat → (Nat → Nat → PV) → MapL → Bool → Nat → (Nat → Nat → PV) → Option α), law18_FdbFlushes_L2_l0 k0 fuel a (i : Int) c wnl wn wf pnl pn pf M nl n f = k0 a c wnl wn wf pnl' pn' pf' M nl n f
  | 0, i, fuel + 1, pnl, pn, pf, hd, hf, hp, hb => by
    obtain rfl : i = 8 := by omega
    refine ⟨pnl, pn, pf, hp, fun x h0 h8 => ?_, fun {α} k0 => ?_⟩
    · rw [hb x h0, dec_t (by omega), Bool.true_and]
    · show law18_FdbFlushes_L2_s0 _ k0 a _ c wnl wn wf pnl pn pf M nl n f = _
      unfold law18_FdbFlushes_L2_s0
      rw [dec_f (by omega), cond_false]
  | d + 1, i, fuel + 1, pnl, pn, pf, hd, hf, hp, hb => by
    have e : IntKind.i64.wrap ((i : Int) + 1) = ((i + 1 : Nat) : Int) := by rw [i64_id (by omega) (by omega)]; rfl
    have eu : IntKind.u64.wrap (i : Int) = (i : Int) := u64_id (by omega) (by omega)
    have step : ∀ {α : Type} (k0 : Int → Int → Bool → Nat → (Nat → Nat → PV) → Bool → Nat → (Nat → Nat → PV) → MapL → Bool → Nat → (Nat → Nat → PV) → Option α), law18_FdbFlushes_L2_l0 k0 (fuel + 1) a (i : Int) c wnl wn wf pnl pn pf M nl n f = bif bitb a (i : Int) then law18_FdbFlushes_L2_l0 k0 fuel a ((i + 1 : Nat) : Int) c wnl wn wf (pnl && false) (pn + 1) (catf pn pf (rowOf 1 [.val (.int .i64 (i : Int))])) M nl n f else law18_FdbFlushes_L2_l0 k0 fuel a ((i + 1 : Nat) : Int) c wnl wn wf pnl pn pf M nl n f := by
      intro α k0
      show law18_FdbFlushes_L2_s0 _ k0 a (i : Int) c wnl wn wf pnl pn pf M nl n f = _
      unfold law18_FdbFlushes_L2_s0 bitb
      rw [dec_t (by omega), cond_true, dec_f (by rw [eu]; omega), cond_false, ble_true (show (pn + 1) * 8 ≤ bound by unfold bound; omega), cond_true, e]
    have key : ∀ (q : Nat) (g : Nat → Nat → PV) (b : Bool), (∀ x : Int, 0 ≤ x → hasP g q x = (hasP pf pn x || (b && (x == (i : Int))))) → b = bitb a i → ∀ x : Int, 0 ≤ x → hasP g q x = (decide (x < ((i + 1 : Nat) : Int)) && bitb a x) := by
      intro q g b h hbi x hx
      rw [h x hx, hb x hx, hbi]
      rcases Int.lt_trichotomy x i with h1 | h1 | h1
      · rw [dec_t h1, dec_t (by omega), show (x == (i : Int)) = false by simpa using Int.ne_of_lt h1, Bool.and_false, Bool.or_false]
      · rw [h1, dec_f (by omega), dec_t (by omega), beq_self_eq_true, Bool.and_true, Bool.false_and, Bool.false_or, Bool.true_and]
      · rw [dec_f (by omega), dec_f (by omega), show (x == (i : Int)) = false by simpa using Int.ne_of_gt h1, Bool.and_false, Bool.false_and]; rfl
    cases hx : bitb a (i : Int) with
    | true =>
      obtain ⟨pnl', pn', pf', h8, hb', he⟩ := loop2 a wnl wn wf c M nl n f d (i + 1) fuel (pnl && false) (pn + 1) _ (by omega) (by omega) (by omega) (key (pn + 1) (catf pn pf (rowOf 1 [.val (.int .i64 (i : Int))])) true (fun x _ => by rw [hasP_snoc, Bool.true_and]) hx.symm)
      exact ⟨pnl', pn', pf', h8, hb', fun {α} k0 => by rw [step, hx, cond_true]; exact he k0⟩
    | false =>
      obtain ⟨pnl', pn', pf', h8, hb', he⟩ := loop2 a wnl wn wf c M nl n f d (i + 1) fuel pnl pn pf (by omega) (by omega) (by omega) (key pn pf false (fun x _ => by rw [Bool.false_and, Bool.or_false]) hx.symm)
      exact ⟨pnl', pn', pf', h8, hb', fun {α} k0 => by rw [step, hx, cond_false]; exact he k0⟩
theorem loop4 (a : Int) {wn : Nat} {wf : Nat → Nat → PV} {L : List En} (hW : EL wn wf L) (hL32 : L.length ≤ 32) (hp : ∀ e ∈ L, 0 ≤ e.port ∧ e.port < 8) (F : Int → Bool) (hF : ∀ x : Int, 0 ≤ x → x < 8 → F x = bitb a x) {nn : Nat} {nf : Nat → Nat → PV} (hN : EL nn nf (flushL F L)) (wnl nnl : Bool) (c : Int) (M : MapL) (nl : Bool) (n : Nat) (f : Nat → Nat → PV) :
    ∀ (d i at' fuel : Nat), i + d = wn → d < fuel → at' ≤ (flushL F L).length → (flushL F L).drop at' = flushL F (L.drop i) → ∀ {α : Type} (k0 : Option α) (k1 : Int → Int → Bool → Nat → (Nat → Nat → PV) → MapL → Bool → Nat → (Nat → Nat → PV) → Option α), law18_FdbFlushes_L4_l0 k0 k1 fuel a (at' : Int) (i : Int) c wnl wn wf nnl nn nf M nl n f = k1 (nn : Int) c nnl nn nf M nl n f
  | 0, i, at', fuel + 1, hd, hf, ha, hdr, α, k0, k1 => by
    obtain rfl : i = wn := by omega
    have hWn := hW.n
    have hNn := hN.n
    rw [show L.drop i = [] from List.drop_eq_nil_of_le (by omega)] at hdr
    have : (flushL F L).length ≤ at' := List.drop_eq_nil_iff.1 hdr
    have e : at' = nn := by omega
    subst e
    show law18_FdbFlushes_L4_s0 _ k0 k1 a _ (i : Int) c wnl i wf nnl _ nf M nl n f = _
    unfold law18_FdbFlushes_L4_s0
    rw [dec_f (Int.lt_irrefl _), cond_false]
  | d + 1, i, at', fuel + 1, hd, hf, ha, hdr, α, k0, k1 => by
    have hWn := hW.n
    have hNn := hN.n
    have hlt : i < L.length := by omega
    have hlen : (flushL F L).length ≤ 32 := Nat.le_trans (List.length_filter_le _ _) hL32
    obtain ⟨p0, p1⟩ := hp _ (List.getElem_mem hlt)
    have e : IntKind.i64.wrap ((i : Int) + 1) = ((i + 1 : Nat) : Int) := by rw [i64_id (by omega) (by omega)]; rfl
    have e2 : IntKind.i64.wrap ((at' : Int) + 1) = ((at' + 1 : Nat) : Int) := by rw [i64_id (by omega) (by omega)]; rfl
    have eu : IntKind.u64.wrap L[i].port = L[i].port := u64_id (by omega) (by omega)
    have hb := hF L[i].port p0 p1
    unfold bitb at hb
    rw [List.drop_eq_getElem_cons hlt] at hdr
    have hfl : flushL F (L[i] :: L.drop (i + 1)) = bif F L[i].port then flushL F (L.drop (i + 1)) else L[i] :: flushL F (L.drop (i + 1)) := by
      unfold flushL
      rw [List.filter_cons]
      cases F L[i].port <;> rfl
    rw [hfl] at hdr
    show law18_FdbFlushes_L4_s0 _ k0 k1 a (at' : Int) (i : Int) c wnl wn wf nnl nn nf M nl n f = _
    unfold law18_FdbFlushes_L4_s0
    rw [dec_t (by omega), cond_true, inb_t (by omega) (by omega), cond_true, Int.toNat_natCast, hW.port hlt, dec_f (by omega), cond_false, cond_true, dec_f (by omega), cond_false, cond_true, dec_f (by rw [eu]; omega), cond_false, ← hb, e, e2]
    cases hx : F L[i].port with
    | true =>
      rw [hx, cond_true] at hdr
      rw [cond_true]
      exact loop4 a hW hL32 hp F hF hN wnl nnl c M nl n f d (i + 1) at' fuel (by omega) (by omega) ha hdr k0 k1
    | false =>
      rw [hx, cond_false] at hdr
      have hat : at' < (flushL F L).length := by
        rcases Nat.lt_or_ge at' (flushL F L).length with h | h
        · exact h
        · rw [List.drop_eq_nil_of_le h] at hdr; cases hdr
      rw [List.drop_eq_getElem_cons hat] at hdr
      have h1 : (flushL F L)[at'] = L[i] := (List.cons.inj hdr).1
      have h2 := (List.cons.inj hdr).2
      have e18' : e18 nf (at' : Int) wf (i : Int) = false := by
        unfold e18
        rw [Int.toNat_natCast, Int.toNat_natCast, hN.mac hat, hN.vlan hat, hN.port hat, hN.seen hat, hW.mac hlt, hW.vlan hlt, hW.port hlt, hW.seen hlt, h1, beq_self_eq_true, beq_self_eq_true, beq_self_eq_true, beq_self_eq_true]
        rfl
      rw [cond_false, dec_f (by omega), cond_false, inb_t (by omega) (by omega), cond_true, cond_true, e18', cond_false]
      exact loop4 a hW hL32 hp F hF hN wnl nnl c M nl n f d (i + 1) (at' + 1) fuel (by omega) (by omega) (by omega) h2 k0 k1
theorem main {α : Type} (a_1 : Bool) (a_2 : Nat) (a_3 : Nat → Nat → PV) (a_4 : Int) (h_1 : PvOk (.sl a_1 (.int .u8 .nil) 1 a_2 a_3)) (k_1 : RowK (.int .u8 .nil) a_2 a_3) (h_4 : PvOk (.val (.int .u8 a_4))) (k0 k1 : Option α) : law18_FdbFlushes a_1 a_2 a_3 a_4 k0 k1 = k0 := by
  unfold law18_FdbFlushes law18_FdbFlushes_T
  rw [M1_eq]
  by_cases hbig : (a_2 : Int) > 30
  · rw [dec_t hbig]; rfl
  rw [dec_f hbig, cond_false]
  obtain ⟨nl1, n1, f1, L, E1, z1, hI, h1⟩ := loop0 (N := a_2) (by omega) a_1 a_3 (fun j hj => byte_of h_1 k_1 j hj) a_4 a_2 0 18446744073709551616 true 0 (fun _ _ => .val undef) [] (by omega) (by omega) (EL.nil _) (fun _ => rfl) ⟨TabOk.nil, fun e h => absurd h List.not_mem_nil⟩
  have hn1 : n1 ≤ 32 := by rw [← E1.n]; exact hI.t.n
  unfold law18_FdbFlushes_L0
  refine Eq.trans (h1 _ _) ?_
  obtain ⟨wnl, wf, EW, h2⟩ := clone_eq E1 (by omega) nl1 z1
  refine Eq.trans (h2 _) ?_
  obtain ⟨pnl, pn, pf, hpn, hbits, h3⟩ := loop2 a_4 wnl n1 wf 0 M1 nl1 n1 f1 8 0 18446744073709551616 true 0 (fun _ _ => .val undef) (by omega) (by omega) (Nat.le_refl _) (fun x hx => by rw [dec_f (by omega), Bool.false_and]; rfl)
  unfold law18_FdbFlushes_L2
  refine Eq.trans (h3 _) ?_
  obtain ⟨n2, f2, E2, z2, h4⟩ := flush_one E1 (by omega) 0 nl1 M1 z1 pnl pn pf (by omega)
  refine Eq.trans (h4 _) ?_
  have T2 := hI.t.filter fun e => !hasP pf pn e.port
  have hn2 : n2 ≤ 32 := by rw [← E2.n]; exact T2.n
  obtain ⟨nnl, nf, EN, h5⟩ := clone_eq E2 (by omega) nl1 z2
  refine Eq.trans (h5 _) ?_
  unfold law18_FdbFlushes_L4
  refine Eq.trans (loop4 a_4 EW hI.t.n hI.p (hasP pf pn) hbits EN wnl nnl 0 M1 nl1 n2 f2 n1 0 0 18446744073709551616 (by omega) (by omega) (Nat.zero_le _) rfl _ _) ?_
  refine Eq.trans (look_static (by rw [M1_has]; rfl) nl1 n2 f2 _ _) ?_
  rw [M1_cell]
  show (bif ((n2 : Int) == (n2 : Int)) then (bif ((0 : Int) == 0) then k0 else k1) else k1) = k0
  rw [beq_self_eq_true]
  rfl
end Go.Proofs.Ytampnnhdgnhjaaa.FdbFlushes

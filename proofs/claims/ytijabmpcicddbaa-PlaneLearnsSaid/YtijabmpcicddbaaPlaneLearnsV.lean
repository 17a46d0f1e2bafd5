/- Lemmas for PlaneLearns: what its functions come to. -/
import Derived.Test.YtijabmpcicddbaaPlaneLearnsU
import Derived.Test.YtijabmpcicddbaaVe37
set_option linter.unusedVariables false
set_option linter.unusedSimpArgs false
set_option maxHeartbeats 1000000
namespace Go.Proofs.Ytijabmpcicddbaa.PlaneLearns.Vl
open Go.Ve
open Mem (sortI rowI sortI_perm sortI_sorted sorted_uniq)
def fI (q : Nat → Bool) : Nat → Option Nat
  | 0 => none
  | n + 1 => match fI q n with | some j => some j | none => bif q n then some n else none
theorem fI_succ (q : Nat → Bool) (n : Nat) : fI q (n + 1) = match fI q n with | some j => some j | none => bif q n then some n else none := rfl
theorem fI_none {q : Nat → Bool} : ∀ {n : Nat}, fI q n = none ↔ ∀ j, j < n → q j = false
  | 0 => ⟨fun _ j h => absurd h (Nat.not_lt_zero j), fun _ => rfl⟩
  | n + 1 => by
    have ih := fI_none (q := q) (n := n)
    rw [fI_succ]
    cases h : fI q n with
    | some j =>
      refine ⟨(fun h2 => nomatch h2), fun h2 => ?_⟩
      rw [ih.2 fun j hj => h2 j (by omega)] at h
      cases h
    | none =>
      have h1 := ih.1 h
      cases h2 : q n with
      | true => exact ⟨(fun h3 => nomatch h3), fun h3 => by rw [h3 n (Nat.lt_succ_self n)] at h2; cases h2⟩
      | false => exact ⟨fun _ j hj => by
          rcases Nat.lt_succ_iff_lt_or_eq.1 hj with h3 | rfl
          · exact h1 j h3
          · exact h2, fun _ => rfl⟩
theorem fI_some {q : Nat → Bool} : ∀ {n r : Nat}, r < n → q r = true → (∀ j, j < r → q j = false) → fI q n = some r
  | n + 1, r, hr, h1, h2 => by
    rw [fI_succ]
    rcases Nat.lt_succ_iff_lt_or_eq.1 hr with h3 | rfl
    · rw [fI_some h3 h1 h2]
    · rw [fI_none.2 h2, h1]; rfl
theorem fI_lt {q : Nat → Bool} : ∀ {n r : Nat}, fI q n = some r → r < n ∧ q r = true
  | n + 1, r, h => by
    rw [fI_succ] at h
    cases h1 : fI q n with
    | some j =>
      rw [h1] at h
      have e : j = r := Option.some.inj h
      subst e
      have := fI_lt h1
      exact ⟨by omega, this.2⟩
    | none =>
      rw [h1] at h
      cases h2 : q n with
      | true => rw [h2] at h; have e : n = r := Option.some.inj h; subst e; exact ⟨Nat.lt_succ_self _, h2⟩
      | false => rw [h2] at h; cases h
def vi (f : Nat → Nat → PV) (n : Nat) (v : Int) : Option Nat := fI (fun j => numOf (f j 0) == v) n
def bitm (a p : Int) : Bool := (bits .and .u8 (shrI .u8 a p) 1) == 1
theorem find_loop {n : Nat} (hn : n ≤ 1000000) (f : Nat → Nat → PV) (v : Int) (nl : Bool) : ∀ (d i fuel : Nat), i + d = n → d < fuel → (∀ j, j < i → (numOf (f j 0) == v) = false) →
    (∃ r, vi f n v = some r ∧ ∀ {α : Type} (k0 : Int → Int → Int → Option α) (k1 : Option α), vlan_find_L0_l0 k0 k1 fuel v nl n f (n : Int) (i : Int) = k0 (numOf (f r 0)) (numOf (f r 1)) (numOf (f r 2))) ∨
    (vi f n v = none ∧ ∀ {α : Type} (k0 : Int → Int → Int → Option α) (k1 : Option α), vlan_find_L0_l0 k0 k1 fuel v nl n f (n : Int) (i : Int) = k1)
  | 0, i, fuel + 1, hd, hf, ha => by
    obtain rfl : i = n := by omega
    refine .inr ⟨fI_none.2 ha, fun {α} k0 k1 => ?_⟩
    show vlan_find_L0_s0 _ k0 k1 v nl i f (i : Int) (i : Int) = _
    unfold vlan_find_L0_s0
    rw [dec_f (Int.lt_irrefl _), cond_false]
  | d + 1, i, fuel + 1, hd, hf, ha => by
    have step : ∀ {α : Type} (k0 : Int → Int → Int → Option α) (k1 : Option α), vlan_find_L0_l0 k0 k1 (fuel + 1) v nl n f (n : Int) (i : Int) = bif numOf (f i 0) == v then k0 (numOf (f i 0)) (numOf (f i 1)) (numOf (f i 2)) else vlan_find_L0_l0 k0 k1 fuel v nl n f (n : Int) ((i + 1 : Nat) : Int) := by
      intro α k0 k1
      show vlan_find_L0_s0 _ k0 k1 v nl n f (n : Int) (i : Int) = _
      unfold vlan_find_L0_s0
      rw [dec_t (by omega), cond_true, inb_t (by omega) (by omega), cond_true, Int.toNat_natCast, i64_id (by omega) (by omega)]
      rfl
    cases hx : (numOf (f i 0) == v) with
    | true => exact .inl ⟨i, fI_some (by omega) hx ha, fun {α} k0 k1 => by rw [step, hx]; rfl⟩
    | false =>
      rcases find_loop hn f v nl d (i + 1) fuel (by omega) (by omega) (fun j hj => by
        rcases Nat.lt_succ_iff_lt_or_eq.1 hj with h3 | rfl
        · exact ha j h3
        · exact hx) with ⟨r, hr, he⟩ | ⟨hr, he⟩
      · exact .inl ⟨r, hr, fun {α} k0 k1 => by rw [step, hx]; exact he k0 k1⟩
      · exact .inr ⟨hr, fun {α} k0 k1 => by rw [step, hx]; exact he k0 k1⟩
theorem rvlan_loop {n : Nat} (hn : n ≤ 1000000) (f : Nat → Nat → PV) (v b1 b2 b3 : Int) (pnl : Bool) (pn : Nat) (pf : Nat → Nat → PV) (nl : Bool) (qnl : Bool) (qn : Nat) (qf : Nat → Nat → PV) : ∀ (d i fuel : Nat), i + d = n → d < fuel → (∀ j, j < i → (numOf (f j 0) == v) = false) →
    (∃ r, vi f n v = some r ∧ ∀ {α : Type} (k0 : Int → Option α) (k1 : Option α), ref05_Vlan_L0_l0 k0 k1 fuel v (i : Int) b1 b2 b3 pnl pn pf nl n f qnl qn qf = k0 (r : Nat)) ∨
    (vi f n v = none ∧ ∀ {α : Type} (k0 : Int → Option α) (k1 : Option α), ref05_Vlan_L0_l0 k0 k1 fuel v (i : Int) b1 b2 b3 pnl pn pf nl n f qnl qn qf = k1)
  | 0, i, fuel + 1, hd, hf, ha => by
    obtain rfl : i = n := by omega
    refine .inr ⟨fI_none.2 ha, fun {α} k0 k1 => ?_⟩
    show ref05_Vlan_L0_s0 _ k0 k1 v (i : Int) b1 b2 b3 pnl pn pf nl i f qnl qn qf = _
    unfold ref05_Vlan_L0_s0
    rw [dec_f (Int.lt_irrefl _), cond_false]
  | d + 1, i, fuel + 1, hd, hf, ha => by
    have step : ∀ {α : Type} (k0 : Int → Option α) (k1 : Option α), ref05_Vlan_L0_l0 k0 k1 (fuel + 1) v (i : Int) b1 b2 b3 pnl pn pf nl n f qnl qn qf = bif numOf (f i 0) == v then k0 (i : Int) else ref05_Vlan_L0_l0 k0 k1 fuel v ((i + 1 : Nat) : Int) b1 b2 b3 pnl pn pf nl n f qnl qn qf := by
      intro α k0 k1
      show ref05_Vlan_L0_s0 _ k0 k1 v (i : Int) b1 b2 b3 pnl pn pf nl n f qnl qn qf = _
      unfold ref05_Vlan_L0_s0
      rw [dec_t (by omega), cond_true, inb_t (by omega) (by omega), cond_true, Int.toNat_natCast, i64_id (by omega) (by omega)]
      rfl
    cases hx : (numOf (f i 0) == v) with
    | true => exact .inl ⟨i, fI_some (by omega) hx ha, fun {α} k0 k1 => by rw [step, hx]; rfl⟩
    | false =>
      rcases rvlan_loop hn f v b1 b2 b3 pnl pn pf nl qnl qn qf d (i + 1) fuel (by omega) (by omega) (fun j hj => by
        rcases Nat.lt_succ_iff_lt_or_eq.1 hj with h3 | rfl
        · exact ha j h3
        · exact hx) with ⟨r, hr, he⟩ | ⟨hr, he⟩
      · exact .inl ⟨r, hr, fun {α} k0 k1 => by rw [step, hx]; exact he k0 k1⟩
      · exact .inr ⟨hr, fun {α} k0 k1 => by rw [step, hx]; exact he k0 k1⟩
theorem rvlan_eq {n : Nat} (hn : n ≤ 1000000) (f : Nat → Nat → PV) (v b1 b2 b3 : Int) (pnl : Bool) (pn : Nat) (pf : Nat → Nat → PV) (nl : Bool) (qnl : Bool) (qn : Nat) (qf : Nat → Nat → PV) {α : Type} (k0 : Int → Option α) :
    ref05_Vlan b1 b2 b3 pnl pn pf nl n f qnl qn qf v k0 = k0 (match vi f n v with | some r => (r : Nat) | none => -1) := by
  unfold ref05_Vlan ref05_Vlan_T ref05_Vlan_L0
  rcases rvlan_loop hn f v b1 b2 b3 pnl pn pf nl qnl qn qf n 0 18446744073709551616 (by omega) (by omega) (fun j hj => absurd hj (Nat.not_lt_zero j)) with ⟨r, hr, he⟩ | ⟨hr, he⟩
  · rw [hr]; exact he _ _
  · rw [hr]; exact he _ _
theorem rmember_eq (x m t : Int) (p : Int) (hp : p < 18446744073709551616) {α : Type} (k0 : Bool → Option α) : ref05_Member x m t p k0 = k0 (decide (0 ≤ p) && (decide (p < 8) && bitm m p)) := by
  unfold ref05_Member ref05_Member_T
  by_cases h0 : 0 ≤ p
  · rw [dec_t (show p ≥ 0 from h0), cond_true]
    by_cases h8 : p < 8
    · rw [dec_t h8, cond_true, u64_id h0 (by omega), dec_f (by omega), cond_false]
      rfl
    · rw [dec_f h8]; rfl
  · rw [dec_f (show ¬ p ≥ 0 from h0)]; rfl
def tagv (tg p : Int) : Int := IntKind.i64.wrap (bits .and .u8 (shrI .u8 tg p) 1)
def mE (tg : Int) (p : Nat) : List PV × List PV := ([.val (.int .i64 (p : Int))], [.val (.int .i64 (tagv tg (p : Int)))])
def isM (m : Int) (p : Nat) : Bool := decide (p < 8) && bitm m (p : Int)
def mList (m tg : Int) (k : Nat) : MapL := ((List.range k).filter (isM m)).map (mE tg)
theorem keyEq1 (p q : Int) : keyEq [.val (.int .i64 p)] [.val (.int .i64 q)] = decide (p = q) := by
  show (pvEq _ _ && true) = _
  by_cases h : p = q <;> simp [pvEq, h]
theorem mhas_map (tg p : Int) : ∀ (l : List Nat), mhas (l.map (mE tg)) [.val (.int .i64 p)] = l.any fun j => decide (p = (j : Int))
  | [] => rfl
  | j :: l => by
    show (keyEq _ _ || mhas (l.map (mE tg)) _) = _
    rw [mhas_map tg p l]
    unfold mE
    rw [keyEq1]
    rfl
theorem mget_map (tg : Int) (p : Nat) : ∀ (l : List Nat), p ∈ l → mget (l.map (mE tg)) [.val (.int .i64 (p : Int))] = [.val (.int .i64 (tagv tg (p : Int)))]
  | j :: l, h => by
    show (bif keyEq _ (mE tg j).1 then (mE tg j).2 else mget (l.map (mE tg)) _) = _
    unfold mE
    rw [keyEq1]
    by_cases hj : (p : Int) = (j : Int)
    · rw [dec_t hj, cond_true, hj]
    · rw [dec_f hj, cond_false]
      rcases List.mem_cons.1 h with e | h
      · exact absurd (by rw [e]) hj
      · exact mget_map tg p l h
theorem mput_new (k v : List PV) : ∀ (l : MapL), mhas l k = false → mput l k v = l ++ [(k, v)]
  | [], _ => rfl
  | e :: r, h => by
    have h1 : (keyEq k e.1 || mhas r k) = false := h
    rw [Bool.or_eq_false_iff] at h1
    show (bif keyEq k e.1 then (k, v) :: r else e :: mput r k v) = _
    rw [h1.1, cond_false, mput_new k v r h1.2]
    rfl
theorem mhas_list (m tg : Int) (k : Nat) (p : Int) : mhas (mList m tg k) [.val (.int .i64 p)] = (decide (0 ≤ p ∧ p < k) && isM m p.toNat) := by
  unfold mList
  rw [mhas_map, Bool.eq_iff_iff, List.any_eq_true, Bool.and_eq_true, decide_eq_true_eq]
  constructor
  · rintro ⟨j, hj, h⟩
    have hj := List.mem_filter.1 hj
    have e := of_decide_eq_true h
    have := List.mem_range.1 hj.1
    rw [e, Int.toNat_natCast]
    exact ⟨⟨by omega, by omega⟩, hj.2⟩
  · rintro ⟨⟨h1, h2⟩, h3⟩
    exact ⟨p.toNat, List.mem_filter.2 ⟨List.mem_range.2 (by omega), h3⟩, decide_eq_true (by omega)⟩
theorem mcell_list (m tg : Int) (k : Nat) (p : Nat) (hp : p < k) (h : isM m p = true) : mcell (mList m tg k) [.val (.int .i64 (p : Int))] 0 = .val (.int .i64 (tagv tg (p : Int))) := by
  unfold mcell mList
  rw [mget_map tg p _ (List.mem_filter.2 ⟨List.mem_range.2 hp, h⟩)]
  rfl
theorem mList_succ (m tg : Int) (k : Nat) : mList m tg (k + 1) = bif isM m k then mList m tg k ++ [mE tg k] else mList m tg k := by
  unfold mList
  rw [List.range_succ, List.filter_append, List.map_append, List.filter_cons]
  cases isM m k with
  | true => rfl
  | false => exact List.append_nil _
theorem mem_loop (id m tg : Int) {N : Nat} (hN : N ≤ 1000000) : ∀ (d i fuel : Nat), i + d = N → d < fuel → ∀ {α : Type} (k0 : MapL → Option α), vlan_members_L0_l0 k0 fuel (N : Int) (i : Int) (mList m tg i) id m tg = k0 (mList m tg N)
  | 0, i, fuel + 1, hd, hf, α, k0 => by
    obtain rfl : i = N := by omega
    show vlan_members_L0_s0 _ k0 (i : Int) (i : Int) _ id m tg = _
    unfold vlan_members_L0_s0
    rw [dec_f (Int.lt_irrefl _), cond_false]
  | d + 1, i, fuel + 1, hd, hf, α, k0 => by
    have ih := mem_loop id m tg hN d (i + 1) fuel (by omega) (by omega) k0
    have e : IntKind.i64.wrap ((i : Int) + 1) = ((i + 1 : Nat) : Int) := by rw [i64_id (by omega) (by omega)]; rfl
    show vlan_members_L0_s0 _ k0 (N : Int) (i : Int) _ id m tg = _
    unfold vlan_members_L0_s0
    rw [dec_t (by omega), cond_true, e]
    rw [mList_succ] at ih
    by_cases h8 : i < 8
    · rw [dec_t (by omega), cond_true, dec_f (by omega), cond_false]
      cases hb : bitm m (i : Int) with
      | true =>
        have hm : isM m i = true := by unfold isM; rw [dec_t h8, hb]; rfl
        rw [hm, cond_true] at ih
        unfold bitm at hb
        rw [hb, cond_true, cond_false]
        have e2' : e8 (mList m tg i) (i : Int) tg = mList m tg i ++ [mE tg i] := by
          unfold e8
          rw [mput_new _ _ _ (by rw [mhas_list, dec_f (by omega)]; rfl)]
          rfl
        rw [e2']
        exact ih
      | false =>
        have hm : isM m i = false := by unfold isM; rw [hb, Bool.and_false]
        rw [hm, cond_false] at ih
        unfold bitm at hb
        rw [hb, cond_false]
        exact ih
    · have hm : isM m i = false := by unfold isM; rw [dec_f h8]; rfl
      rw [hm, cond_false] at ih
      rw [dec_f (by omega), cond_false]
      exact ih
theorem nomem_loop {N : Nat} (hN : N ≤ 1000000) (l : MapL) : ∀ (d i fuel : Nat), i + d = N → d < fuel → ∀ {α : Type} (k0 : MapL → Option α), vlan_members_L0_v1_l0 k0 fuel (N : Int) (i : Int) l = k0 l
  | 0, i, fuel + 1, hd, hf, α, k0 => by
    obtain rfl : i = N := by omega
    show vlan_members_L0_v1_s0 _ k0 (i : Int) (i : Int) l = _
    unfold vlan_members_L0_v1_s0
    rw [dec_f (Int.lt_irrefl _), cond_false]
  | d + 1, i, fuel + 1, hd, hf, α, k0 => by
    show vlan_members_L0_v1_s0 _ k0 (N : Int) (i : Int) l = _
    unfold vlan_members_L0_v1_s0
    rw [dec_t (by omega), cond_true, i64_id (by omega) (by omega)]
    exact nomem_loop hN l d (i + 1) fuel (by omega) (by omega) k0
def memL (vf : Nat → Nat → PV) (vn pn : Nat) (v : Int) : MapL := match vi vf vn v with | some j => mList (numOf (vf j 1)) (numOf (vf j 2)) pn | none => []
theorem members_eq {pn vn : Nat} (hp : pn ≤ 1000000) (hv : vn ≤ 1000000) (b1 b2 b3 : Int) (pnl : Bool) (pf : Nat → Nat → PV) (vnl : Bool) (vf : Nat → Nat → PV) (qnl : Bool) (qn : Nat) (qf : Nat → Nat → PV) (v : Int) {α : Type} (k0 : MapL → Option α) :
    vlan_members b1 b2 b3 pnl pn pf vnl vn vf qnl qn qf v k0 = k0 (memL vf vn pn v) := by
  unfold vlan_members vlan_members_T vlan_find vlan_find_T vlan_find_L0 memL
  rcases find_loop hv vf v vnl vn 0 18446744073709551616 (by omega) (by omega) (fun j hj => absurd hj (Nat.not_lt_zero j)) with ⟨r, hr, he⟩ | ⟨hr, he⟩
  · rw [hr]
    refine Eq.trans (he _ _) ?_
    unfold vlan_members_L0
    exact mem_loop _ _ _ hp pn 0 18446744073709551616 (by omega) (by omega) k0
  · rw [hr]
    refine Eq.trans (he _ _) ?_
    unfold vlan_members_L0_v1
    exact nomem_loop hp [] pn 0 18446744073709551616 (by omega) (by omega) k0
def memP (vf : Nat → Nat → PV) (vn : Nat) (v p : Int) : Bool := match vi vf vn v with | some j => decide (0 ≤ p) && (decide (p < 8) && bitm (numOf (vf j 1)) p) | none => false
theorem memL_has (vf : Nat → Nat → PV) (vn pn : Nat) (v p : Int) (h0 : 0 ≤ p) (h1 : p < pn) : mhas (memL vf vn pn v) [.val (.int .i64 p)] = memP vf vn v p := by
  unfold memL memP
  cases vi vf vn v with
  | none => rfl
  | some j =>
    show mhas (mList _ _ pn) _ = _
    rw [mhas_list, dec_t ⟨h0, h1⟩, dec_t h0]
    unfold isM
    rw [show ((p.toNat : Nat) : Int) = p by omega, show decide (p.toNat < 8) = decide (p < 8) from decide_eq_decide.2 (by omega)]
theorem memL_off (vf : Nat → Nat → PV) (vn pn : Nat) (v p : Int) (h : ¬ (0 ≤ p ∧ p < pn)) : mhas (memL vf vn pn v) [.val (.int .i64 p)] = false := by
  unfold memL
  cases vi vf vn v with
  | none => rfl
  | some j => rw [mhas_list, dec_f h]; rfl
def inV (pf : Nat → Nat → PV) (pn : Nat) (vf : Nat → Nat → PV) (vn : Nat) (p : Int) (tag : Bool) (vid : Int) : Option Int :=
  bif decide (0 ≤ p ∧ p < pn) && boolOf (pf p.toNat 0) then
    let v := bif tag && vid != 0 then vid else numOf (pf p.toNat 2)
    bif memP vf vn v p then some v else none
  else none
theorem up_eq {pn : Nat} (pf : Nat → Nat → PV) (b1 b2 b3 : Int) (pnl vnl qnl : Bool) (vn qn : Nat) (vf qf : Nat → Nat → PV) (p : Int) {α : Type} (k0 : Bool → Option α) :
    vlan_up b1 b2 b3 pnl pn pf vnl vn vf qnl qn qf p k0 = k0 (decide (0 ≤ p ∧ p < pn) && boolOf (pf p.toNat 0)) := by
  unfold vlan_up vlan_up_T
  by_cases h0 : 0 ≤ p
  · rw [dec_t (show p ≥ 0 from h0), cond_true]
    by_cases h1 : p < pn
    · rw [dec_t h1, cond_true, inb_t h0 h1, cond_true, dec_t (show 0 ≤ p ∧ p < pn from ⟨h0, h1⟩)]
      rfl
    · rw [dec_f h1, dec_f (show ¬ (0 ≤ p ∧ p < pn) by omega)]; rfl
  · rw [dec_f (show ¬ p ≥ 0 from h0), dec_f (show ¬ (0 ≤ p ∧ p < pn) by omega)]; rfl
theorem in_eq {pn vn : Nat} (hp : pn ≤ 1000000) (hv : vn ≤ 1000000) (b1 b2 b3 : Int) (pnl : Bool) (pf : Nat → Nat → PV) (vnl : Bool) (vf : Nat → Nat → PV) (qnl : Bool) (qn : Nat) (qf : Nat → Nat → PV) (p d s : Int) (tag : Bool) (x y z : Int) (bnl : Bool) (bn : Nat) (bf : Nat → Nat → PV) {α : Type} (k0 : Option α) (k1 : Int → Option α) :
    vlan_In b1 b2 b3 pnl pn pf vnl vn vf qnl qn qf p d s tag x y z bnl bn bf k0 k1 = match inV pf pn vf vn p tag y with | none => k0 | some v => k1 v := by
  unfold vlan_In vlan_In_T inV
  rw [up_eq]
  cases hu : (decide (0 ≤ p ∧ p < pn) && boolOf (pf p.toNat 0)) with
  | false => rfl
  | true =>
    obtain ⟨h0, h1⟩ := of_decide_eq_true (Bool.and_eq_true _ _ ▸ hu).1
    have hin : inb p pn = true := inb_t h0 h1
    have key : ∀ v, vlan_members b1 b2 b3 pnl pn pf vnl vn vf qnl qn qf v (fun r_24 => bif mhas r_24 [.val (.int .i64 p)] then k1 v else k0) = match (bif memP vf vn v p then some v else none) with | none => k0 | some v => k1 v := fun v => by
      rw [members_eq hp hv, memL_has vf vn pn v p h0 h1]
      cases memP vf vn v p <;> rfl
    rw [Bool.not_true, cond_false, hin, cond_true]
    dsimp only
    rw [cond_true]
    cases tag with
    | false =>
      rw [cond_false, Bool.false_and, cond_false]
      exact key _
    | true =>
      rw [cond_true, Bool.true_and]
      cases hy : (y != 0) with
      | true => rw [cond_true, cond_true]; exact key _
      | false => rw [cond_false, cond_false]; exact key _
theorem vi_at {vf : Nat → Nat → PV} {vn : Nat} {v : Int} {r : Nat} (h : vi vf vn v = some r) : r < vn ∧ numOf (vf r 0) = v := ⟨(fI_lt h).1, eq_of_beq (fI_lt h).2⟩
theorem rin_eq {pn vn : Nat} (hp : pn ≤ 1000000) (hv : vn ≤ 1000000) (b1 b2 b3 : Int) (pnl : Bool) (pf : Nat → Nat → PV) (vnl : Bool) (vf : Nat → Nat → PV) (qnl : Bool) (qn : Nat) (qf : Nat → Nat → PV) (p d s : Int) (tag : Bool) (x y z : Int) (bnl : Bool) (bn : Nat) (bf : Nat → Nat → PV) {α : Type} (k0 : Option α) (k1 : Int → Option α) :
    ref19_In b1 b2 b3 pnl pn pf vnl vn vf qnl qn qf p d s tag x y z bnl bn bf k0 k1 = match inV pf pn vf vn p tag y with | none => k0 | some v => k1 v := by
  unfold ref19_In ref19_In_T inV
  by_cases h0 : p < 0
  · rw [dec_t h0, dec_f (show ¬ (0 ≤ p ∧ p < pn) by omega)]; rfl
  by_cases h1 : p ≥ pn
  · rw [dec_f h0, dec_t h1, dec_f (show ¬ (0 ≤ p ∧ p < pn) by omega)]; rfl
  have hin : inb p pn = true := inb_t (by omega) (by omega)
  rw [dec_f h0, cond_false, dec_f h1, cond_false, hin, cond_true, dec_t (show 0 ≤ p ∧ p < pn by omega), Bool.true_and]
  cases boolOf (pf p.toNat 0) with
  | false => rfl
  | true =>
    have key : ∀ v, ref05_Vlan b1 b2 b3 pnl pn pf vnl vn vf qnl qn qf v (fun r_23 => bif decide (r_23 < 0) then k0 else bif inb r_23 vn then ref05_Member (numOf (vf r_23.toNat 0)) (numOf (vf r_23.toNat 1)) (numOf (vf r_23.toNat 2)) p (fun r_24 => bif !r_24 then k0 else k1 v) else none) = match (bif memP vf vn v p then some v else none) with | none => k0 | some v => k1 v := fun v => by
      rw [rvlan_eq hv]
      unfold memP
      cases hq : vi vf vn v with
      | none => rfl
      | some r =>
        have hr := (vi_at hq).1
        dsimp only
        rw [dec_f (by omega), cond_false, inb_t (by omega) (by omega), cond_true, Int.toNat_natCast, rmember_eq _ _ _ p (by omega)]
        cases (decide (0 ≤ p) && (decide (p < 8) && bitm (numOf (vf r 1)) p)) <;> rfl
    rw [Bool.not_true, cond_false, cond_true, cond_true]
    cases tag with
    | false =>
      rw [cond_false, Bool.false_and]
      exact key _
    | true =>
      rw [cond_true, Bool.true_and]
      cases hy : (y != 0) with
      | true => rw [cond_true]; exact key _
      | false => rw [cond_false]; exact key _
theorem u8_wraps : ∀ n : Int, 0 ≤ n → n < 2 ^ 8 → IntKind.u8.wrap n = n := fun n a b => u8_id a (by rw [p8] at b; exact b)
theorem tag_bit {tg : Int} (h0 : 0 ≤ tg) (h1 : tg ≤ 255) {p : Nat} (hp : p < 8) : (tagv tg (p : Int) == 1) = bitm tg (p : Int) := by
  have e : shrI .u8 tg (p : Int) = tg / (2 ^ p : Int) := shr_div .u8 tg p (by show p ≤ 8; omega)
  have hpos : (0 : Int) < 2 ^ p := Int.pow_pos (by decide)
  have hx0 : 0 ≤ tg / (2 ^ p : Int) := Int.ediv_nonneg h0 (Int.le_of_lt hpos)
  have hx1 : tg / (2 ^ p : Int) ≤ 255 := Int.le_trans (Int.ediv_le_self _ h0) h1
  have hm : bits .and .u8 (tg / (2 ^ p : Int)) 1 = tg / (2 ^ p : Int) % 2 := bits_mask .u8 8 (by decide) u8_wraps 1 (by decide) _ hx0 (by rw [p8]; omega)
  unfold tagv bitm
  rw [e, hm, i64_id (by omega) (by omega)]
def outV (pf : Nat → Nat → PV) (pn : Nat) (vf : Nat → Nat → PV) (vn : Nat) (v p : Int) : Option Nat :=
  bif decide (0 ≤ p ∧ p < pn) && (boolOf (pf p.toNat 0) && decide (1 ≤ v ∧ v ≤ 4094)) then
    match vi vf vn v with
    | some r => bif decide (p < 8) && bitm (numOf (vf r 1)) p then some r else none
    | none => none
  else none
def Uq (vf : Nat → Nat → PV) (vn : Nat) : Prop := ∀ i j, i < j → j < vn → numOf (vf i 0) ≠ numOf (vf j 0)
theorem cell_u8 {n : Nat} {k : CK} {e : Nat} {f : Nat → Nat → PV} {nl : Bool} (h : PvOk (.sl nl k e n f)) (kk : RowK k n f) (c : Nat) (hc : c < e) (hk : ∃ r, kDrop k c = .int .u8 r) : ∀ j, j < n → 0 ≤ numOf (f j c) ∧ numOf (f j c) ≤ 255 := by
  intro j hj
  have h1 := (pv_sl h).2.2 j hj c hc
  have h2 := kk j hj c
  obtain ⟨r, hr⟩ := hk
  rw [hr] at h2
  obtain ⟨m, hm⟩ := h2
  rw [hm] at h1 ⊢
  exact pv_u8 h1
theorem rmember_b (x m t p : Int) : ∃ b : Bool, ∀ {α : Type} (k0 : Bool → Option α), ref05_Member x m t p k0 = k0 b := by
  by_cases h : p < 18446744073709551616
  · exact ⟨_, fun {α} k0 => rmember_eq x m t p h k0⟩
  · refine ⟨false, fun {α} k0 => ?_⟩
    unfold ref05_Member ref05_Member_T
    rw [dec_t (show p ≥ 0 by omega), cond_true, dec_f (show ¬ p < 8 by omega)]
    rfl
theorem less_b (a b c d e f : Int) : ∃ r : Bool, ∀ {α : Type} (k0 : Bool → Option α), ref05_less a b c d e f k0 = k0 r := by
  unfold ref05_less ref05_less_T
  cases decide (b < e) with
  | true => exact ⟨true, fun k0 => rfl⟩
  | false =>
    cases b == e with
    | true => exact ⟨_, fun k0 => rfl⟩
    | false => exact ⟨false, fun k0 => rfl⟩
theorem good2_loop (i b1 b2 b3 : Int) (pnl : Bool) (pn : Nat) (pf : Nat → Nat → PV) (vnl : Bool) (vn : Nat) (vf : Nat → Nat → PV) (qnl : Bool) (qn : Nat) (qf : Nat → Nat → PV) (x m t : Int) : ∀ (d j fuel : Nat), j + d = max j 8 → d < fuel → j ≤ 1000000 →
    ∃ b : Bool, ∀ {α : Type} (k0 : Option α) (k1 : Int → Int → Int → Int → Bool → Nat → (Nat → Nat → PV) → Bool → Nat → (Nat → Nat → PV) → Bool → Nat → (Nat → Nat → PV) → Option α), ref05_Good_L2_v1_l0 k0 k1 fuel i (j : Int) b1 b2 b3 pnl pn pf vnl vn vf qnl qn qf x m t = bif b then k0 else k1 i b1 b2 b3 pnl pn pf vnl vn vf qnl qn qf
  | 0, j, fuel + 1, hd, hf, hj => ⟨false, fun {α} k0 k1 => by
    show ref05_Good_L2_v1_s0 _ _ k0 k1 i (j : Int) b1 b2 b3 pnl pn pf vnl vn vf qnl qn qf x m t = _
    unfold ref05_Good_L2_v1_s0
    rw [dec_f (by omega), cond_false, cond_false]⟩
  | d + 1, j, fuel + 1, hd, hf, hj => by
    obtain ⟨b, hb⟩ := rmember_b x m t (j : Int)
    obtain ⟨c, hc⟩ := good2_loop i b1 b2 b3 pnl pn pf vnl vn vf qnl qn qf x m t d (j + 1) fuel (by omega) (by omega) (by omega)
    refine ⟨b || c, fun {α} k0 k1 => ?_⟩
    show ref05_Good_L2_v1_s0 _ _ k0 k1 i (j : Int) b1 b2 b3 pnl pn pf vnl vn vf qnl qn qf x m t = _
    unfold ref05_Good_L2_v1_s0
    rw [dec_t (by omega), cond_true, hb, i64_id (by omega) (by omega)]
    refine Eq.trans (congrArg (cond b k0) (hc k0 k1)) ?_
    cases b <;> rfl
theorem good0_loop (b1 b2 b3 : Int) (pnl : Bool) (pn : Nat) (hp : pn ≤ 1000000) (pf : Nat → Nat → PV) (vnl : Bool) (vn : Nat) (hv : vn ≤ 1000000) (vf : Nat → Nat → PV) (qnl : Bool) (qn : Nat) (qf : Nat → Nat → PV) : ∀ (d i fuel : Nat), i + d = vn → d < fuel →
    ∃ b : Bool, ∀ {α : Type} (k0 : Option α) (k1 : Int → Int → Int → Bool → Nat → (Nat → Nat → PV) → Bool → Nat → (Nat → Nat → PV) → Bool → Nat → (Nat → Nat → PV) → Option α), ref05_Good_L0_l0 k0 k1 fuel (i : Int) b1 b2 b3 pnl pn pf vnl vn vf qnl qn qf = bif b then k0 else k1 b1 b2 b3 pnl pn pf vnl vn vf qnl qn qf
  | 0, i, fuel + 1, hd, hf => ⟨false, fun {α} k0 k1 => by
    show ref05_Good_L0_s0 _ _ k0 k1 (i : Int) b1 b2 b3 pnl pn pf vnl vn vf qnl qn qf = _
    unfold ref05_Good_L0_s0
    rw [dec_f (by omega), cond_false, cond_false]⟩
  | d + 1, i, fuel + 1, hd, hf => by
    obtain ⟨b, hb⟩ := good2_loop (i : Int) b1 b2 b3 pnl pn pf vnl vn vf qnl qn qf (numOf (vf i 0)) (numOf (vf i 1)) (numOf (vf i 2)) (max pn 8 - pn) pn 18446744073709551616 (by omega) (by omega) hp
    obtain ⟨c, hc⟩ := good0_loop b1 b2 b3 pnl pn hp pf vnl vn hv vf qnl qn qf d (i + 1) fuel (by omega) (by omega)
    have h2 : ∀ {α : Type} (k0 : Option α) (k1 : Int → Int → Int → Bool → Nat → (Nat → Nat → PV) → Bool → Nat → (Nat → Nat → PV) → Bool → Nat → (Nat → Nat → PV) → Option α), ref05_Good_L2_v1 (i : Int) (pn : Int) b1 b2 b3 pnl pn pf vnl vn vf qnl qn qf (numOf (vf i 0)) (numOf (vf i 1)) (numOf (vf i 2)) k0 (fun r_14 r_15 r_16 r_17 r_18 r_19 r_20 r_21 r_22 r_23 r_24 r_25 r_26 => ref05_Good_L0_l0 k0 k1 fuel (IntKind.i64.wrap (r_14 + 1)) r_15 r_16 r_17 r_18 r_19 r_20 r_21 r_22 r_23 r_24 r_25 r_26) = bif b || c then k0 else k1 b1 b2 b3 pnl pn pf vnl vn vf qnl qn qf := fun {α} k0 k1 => by
      unfold ref05_Good_L2_v1
      refine Eq.trans (hb k0 _) ?_
      rw [i64_id (by omega) (by omega)]
      refine Eq.trans (congrArg (cond b k0) (hc k0 k1)) ?_
      cases b <;> rfl
    by_cases hi : (i : Int) > 0
    · refine ⟨decide ((numOf (vf i 0)) < 1) || (decide ((numOf (vf i 0)) > 4094) || (e6 vf (i : Int) || (((bits .andNot .u8 (numOf (vf i 2)) (numOf (vf i 1))) != 0) || (b || c)))), fun {α} k0 k1 => ?_⟩
      show ref05_Good_L0_s0 _ _ k0 k1 (i : Int) b1 b2 b3 pnl pn pf vnl vn vf qnl qn qf = _
      unfold ref05_Good_L0_s0
      rw [dec_t (by omega), cond_true, inb_t (by omega) (by omega), cond_true, dec_t hi, cond_true, i64_id (by omega) (by omega), inb_t (by omega) (by omega), cond_true, Int.toNat_natCast]
      rw [h2]
      cases decide ((numOf (vf i 0)) < 1) <;> cases decide ((numOf (vf i 0)) > 4094) <;> cases e6 vf (i : Int) <;> cases ((bits .andNot .u8 (numOf (vf i 2)) (numOf (vf i 1))) != 0) <;> rfl
    · refine ⟨decide ((numOf (vf i 0)) < 1) || (decide ((numOf (vf i 0)) > 4094) || (((bits .andNot .u8 (numOf (vf i 2)) (numOf (vf i 1))) != 0) || (b || c))), fun {α} k0 k1 => ?_⟩
      show ref05_Good_L0_s0 _ _ k0 k1 (i : Int) b1 b2 b3 pnl pn pf vnl vn vf qnl qn qf = _
      unfold ref05_Good_L0_s0
      rw [dec_t (by omega), cond_true, inb_t (by omega) (by omega), cond_true, dec_f hi, cond_false, Int.toNat_natCast]
      rw [h2]
      cases decide ((numOf (vf i 0)) < 1) <;> cases decide ((numOf (vf i 0)) > 4094) <;> cases ((bits .andNot .u8 (numOf (vf i 2)) (numOf (vf i 1))) != 0) <;> rfl
theorem good4_loop (b1 b2 b3 : Int) (pnl : Bool) (pn : Nat) (hp : pn ≤ 1000000) (pf : Nat → Nat → PV) (vnl : Bool) (vn : Nat) (hv : vn ≤ 1000000) (vf : Nat → Nat → PV) (qnl : Bool) (qn : Nat) (qf : Nat → Nat → PV) : ∀ (d i fuel : Nat), i + d = pn → d < fuel →
    ∃ b : Bool, ∀ {α : Type} (k0 : Option α) (k1 : Int → Int → Int → Bool → Nat → (Nat → Nat → PV) → Bool → Nat → (Nat → Nat → PV) → Bool → Nat → (Nat → Nat → PV) → Option α), ref05_Good_L4_l0 k0 k1 fuel (i : Int) b1 b2 b3 pnl pn pf vnl vn vf qnl qn qf = bif b then k0 else k1 b1 b2 b3 pnl pn pf vnl vn vf qnl qn qf
  | 0, i, fuel + 1, hd, hf => ⟨false, fun {α} k0 k1 => by
    show ref05_Good_L4_s0 _ _ k0 k1 (i : Int) b1 b2 b3 pnl pn pf vnl vn vf qnl qn qf = _
    unfold ref05_Good_L4_s0
    rw [dec_f (by omega), cond_false, cond_false]⟩
  | d + 1, i, fuel + 1, hd, hf => by
    obtain ⟨c, hc⟩ := good4_loop b1 b2 b3 pnl pn hp pf vnl vn hv vf qnl qn qf d (i + 1) fuel (by omega) (by omega)
    have step : ∀ {α : Type} (k0 : Option α) (k1 : Int → Int → Int → Bool → Nat → (Nat → Nat → PV) → Bool → Nat → (Nat → Nat → PV) → Bool → Nat → (Nat → Nat → PV) → Option α), ref05_Good_L4_l0 k0 k1 (fuel + 1) (i : Int) b1 b2 b3 pnl pn pf vnl vn vf qnl qn qf = bif decide ((numOf (pf i 1)) < 1) then k0 else bif decide ((numOf (pf i 1)) > 200000000) then k0 else bif (vi vf vn (numOf (pf i 2))).isNone then k0 else bif c then k0 else k1 b1 b2 b3 pnl pn pf vnl vn vf qnl qn qf := fun {α} k0 k1 => by
      show ref05_Good_L4_s0 _ _ k0 k1 (i : Int) b1 b2 b3 pnl pn pf vnl vn vf qnl qn qf = _
      unfold ref05_Good_L4_s0
      rw [dec_t (show (i : Int) < (pn : Int) by omega), cond_true, inb_t (by omega) (by omega), cond_true, cond_true, cond_true, Int.toNat_natCast, rvlan_eq hv]
      cases hq : vi vf vn (numOf (pf i 2)) with
      | none => rfl
      | some r =>
        dsimp only
        rw [dec_f (show ¬ ((r : Int) < 0) by omega), cond_false, i64_id (by omega) (by omega)]
        rw [show ((i : Int) + 1) = ((i + 1 : Nat) : Int) from rfl, hc k0 k1]
        rfl
    refine ⟨decide ((numOf (pf i 1)) < 1) || (decide ((numOf (pf i 1)) > 200000000) || ((vi vf vn (numOf (pf i 2))).isNone || c)), fun {α} k0 k1 => ?_⟩
    rw [step]
    cases decide ((numOf (pf i 1)) < 1) <;> cases decide ((numOf (pf i 1)) > 200000000) <;> cases (vi vf vn (numOf (pf i 2))).isNone <;> rfl
theorem good6_loop (b1 b2 b3 : Int) (pnl : Bool) (pn : Nat) (hp : pn ≤ 1000000) (pf : Nat → Nat → PV) (vnl : Bool) (vn : Nat) (hv : vn ≤ 1000000) (vf : Nat → Nat → PV) (qnl : Bool) (qn : Nat) (hqn : qn ≤ 1000000) (qf : Nat → Nat → PV) : ∀ (d i fuel : Nat), i + d = qn → d < fuel →
    ∃ b : Bool, ∀ {α : Type} (k0 : Option α) (k1 : Option α), ref05_Good_L6_l0 k0 k1 fuel (i : Int) b1 b2 b3 pnl pn pf vnl vn vf qnl qn qf = bif b then k0 else k1
  | 0, i, fuel + 1, hd, hf => ⟨false, fun {α} k0 k1 => by
    show ref05_Good_L6_s0 _ _ _ _ k0 k1 (i : Int) b1 b2 b3 pnl pn pf vnl vn vf qnl qn qf = _
    unfold ref05_Good_L6_s0
    rw [dec_f (by omega), cond_false, cond_false]⟩
  | d + 1, i, fuel + 1, hd, hf => by
    obtain ⟨c, hc⟩ := good6_loop b1 b2 b3 pnl pn hp pf vnl vn hv vf qnl qn hqn qf d (i + 1) fuel (by omega) (by omega)
    cases hq : vi vf vn (numOf (qf i 1)) with
    | none =>
      refine ⟨true, fun {α} k0 k1 => ?_⟩
      show ref05_Good_L6_s0 _ _ _ _ k0 k1 (i : Int) b1 b2 b3 pnl pn pf vnl vn vf qnl qn qf = _
      unfold ref05_Good_L6_s0
      rw [dec_t (by omega), cond_true, inb_t (by omega) (by omega), cond_true, Int.toNat_natCast, rvlan_eq hv, hq]
      dsimp only
      rw [dec_t (show (-1 : Int) < 0 by omega)]
      cases decide ((numOf (qf i 0)) < 1) <;> cases decide ((numOf (qf i 0)) ≥ 281474976710656) <;> cases ((bits .and .u64 (shrI .u64 (numOf (qf i 0)) 40) 1) == 1) <;> rfl
    | some r =>
      have hr := (vi_at hq).1
      obtain ⟨m, hm⟩ := rmember_b (numOf (vf r 0)) (numOf (vf r 1)) (numOf (vf r 2)) (numOf (qf i 2))
      by_cases hi : (i : Int) > 0
      · obtain ⟨l, hl⟩ := less_b (numOf (qf (i - 1) 0)) (numOf (qf (i - 1) 1)) (numOf (qf (i - 1) 2)) (numOf (qf i 0)) (numOf (qf i 1)) (numOf (qf i 2))
        refine ⟨decide ((numOf (qf i 0)) < 1) || (decide ((numOf (qf i 0)) ≥ 281474976710656) || (((bits .and .u64 (shrI .u64 (numOf (qf i 0)) 40) 1) == 1) || (decide ((numOf (qf i 2)) ≥ (pn : Int)) || (!m || (!l || c))))), fun {α} k0 k1 => ?_⟩
        show ref05_Good_L6_s0 _ _ _ _ k0 k1 (i : Int) b1 b2 b3 pnl pn pf vnl vn vf qnl qn qf = _
        unfold ref05_Good_L6_s0
        rw [dec_t (show (i : Int) < (qn : Int) by omega), cond_true, inb_t (by omega) (by omega), cond_true, Int.toNat_natCast, rvlan_eq hv, hq]
        dsimp only
        rw [dec_f (show ¬ ((r : Int) < 0) by omega), cond_false, inb_t (by omega) (by omega), cond_true, Int.toNat_natCast, hm]
        rw [dec_t hi, cond_true, i64_id (n := (i : Int) - 1) (by omega) (by omega), inb_t (by omega) (by omega), cond_true, show ((i : Int) - 1).toNat = i - 1 by omega, hl, i64_id (by omega) (by omega), show ((i : Int) + 1) = ((i + 1 : Nat) : Int) from rfl, hc k0 k1]
        cases decide ((numOf (qf i 0)) < 1) <;> cases decide ((numOf (qf i 0)) ≥ 281474976710656) <;> cases ((bits .and .u64 (shrI .u64 (numOf (qf i 0)) 40) 1) == 1) <;> cases decide ((numOf (qf i 2)) ≥ (pn : Int)) <;> cases m <;> cases l <;> rfl
      · refine ⟨decide ((numOf (qf i 0)) < 1) || (decide ((numOf (qf i 0)) ≥ 281474976710656) || (((bits .and .u64 (shrI .u64 (numOf (qf i 0)) 40) 1) == 1) || (decide ((numOf (qf i 2)) ≥ (pn : Int)) || (!m || c)))), fun {α} k0 k1 => ?_⟩
        show ref05_Good_L6_s0 _ _ _ _ k0 k1 (i : Int) b1 b2 b3 pnl pn pf vnl vn vf qnl qn qf = _
        unfold ref05_Good_L6_s0
        rw [dec_t (show (i : Int) < (qn : Int) by omega), cond_true, inb_t (by omega) (by omega), cond_true, Int.toNat_natCast, rvlan_eq hv, hq]
        dsimp only
        rw [dec_f (show ¬ ((r : Int) < 0) by omega), cond_false, inb_t (by omega) (by omega), cond_true, Int.toNat_natCast, hm]
        rw [dec_f hi, cond_false, i64_id (by omega) (by omega), show ((i : Int) + 1) = ((i + 1 : Nat) : Int) from rfl, hc k0 k1]
        cases decide ((numOf (qf i 0)) < 1) <;> cases decide ((numOf (qf i 0)) ≥ 281474976710656) <;> cases ((bits .and .u64 (shrI .u64 (numOf (qf i 0)) 40) 1) == 1) <;> cases decide ((numOf (qf i 2)) ≥ (pn : Int)) <;> cases m <;> rfl
theorem good_b (b1 b2 b3 : Int) (pnl : Bool) (pn : Nat) (hp : pn ≤ 1000000) (pf : Nat → Nat → PV) (vnl : Bool) (vn : Nat) (hv : vn ≤ 1000000) (vf : Nat → Nat → PV) (qnl : Bool) (qn : Nat) (hq : qn ≤ 1000000) (qf : Nat → Nat → PV) :
    ∃ b : Bool, ∀ {α : Type} (k0 k1 : Option α), ref05_Good b1 b2 b3 pnl pn pf vnl vn vf qnl qn qf k0 k1 = bif b then k0 else k1 := by
  obtain ⟨u0, h0⟩ := good0_loop b1 b2 b3 pnl pn hp pf vnl vn hv vf qnl qn qf vn 0 18446744073709551616 (by omega) (by omega)
  obtain ⟨u4, h4⟩ := good4_loop b1 b2 b3 pnl pn hp pf vnl vn hv vf qnl qn qf pn 0 18446744073709551616 (by omega) (by omega)
  obtain ⟨u6, h6⟩ := good6_loop b1 b2 b3 pnl pn hp pf vnl vn hv vf qnl qn hq qf qn 0 18446744073709551616 (by omega) (by omega)
  have hall : ∃ b : Bool, ∀ {α : Type} (k0 k1 : Option α), ref05_Good_L0 b1 b2 b3 pnl pn pf vnl vn vf qnl qn qf k0 (fun r_13 r_14 r_15 r_16 r_17 r_18 r_19 r_20 r_21 r_22 r_23 r_24 => ref05_Good_L4 r_13 r_14 r_15 r_16 r_17 r_18 r_19 r_20 r_21 r_22 r_23 r_24 k0 (fun r_25 r_26 r_27 r_28 r_29 r_30 r_31 r_32 r_33 r_34 r_35 r_36 => ref05_Good_L6 r_25 r_26 r_27 r_28 r_29 r_30 r_31 r_32 r_33 r_34 r_35 r_36 k0 k1)) = bif b then k0 else k1 := by
    refine ⟨u0 || (u4 || u6), fun {α} k0 k1 => ?_⟩
    unfold ref05_Good_L0
    refine Eq.trans (h0 k0 _) ?_
    unfold ref05_Good_L4
    refine Eq.trans (congrArg (cond u0 k0) (h4 k0 _)) ?_
    unfold ref05_Good_L6
    refine Eq.trans (congrArg (fun x => cond u0 k0 (cond u4 k0 x)) (h6 k0 k1)) ?_
    cases u0 <;> cases u4 <;> rfl
  obtain ⟨b, hb⟩ := hall
  unfold ref05_Good ref05_Good_T
  refine ⟨decide (b1 < 0) || (decide (b1 > 61440) || (((b1.tmod 4096) != 0) || (decide (b2 < 6) || (decide (b2 > 40) || (decide (b3 < 4) || (decide (b3 > 30) || (decide ((IntKind.i64.wrap (2 * (IntKind.i64.wrap (b3 - 1)))) < b2) || (decide ((pn : Int) < 1) || (decide ((pn : Int) > 8) || (decide ((vn : Int) < 1) || (decide ((vn : Int) > 16) || (decide ((qn : Int) > 16) || b)))))))))))), fun {α} k0 k1 => ?_⟩
  rw [hb]
  generalize decide (b1 < 0) = t1
  generalize decide (b1 > 61440) = t2
  generalize ((b1.tmod 4096) != 0) = t3
  generalize decide (b2 < 6) = t4
  generalize decide (b2 > 40) = t5
  generalize decide (b3 < 4) = t6
  generalize decide (b3 > 30) = t7
  generalize decide ((IntKind.i64.wrap (2 * (IntKind.i64.wrap (b3 - 1)))) < b2) = t8
  generalize decide ((pn : Int) < 1) = t9
  generalize decide ((pn : Int) > 8) = t10
  generalize decide ((vn : Int) < 1) = t11
  generalize decide ((vn : Int) > 16) = t12
  generalize decide ((qn : Int) > 16) = t13
  cases t1; rotate_left; rfl
  cases t2; rotate_left; rfl
  cases t3; rotate_left; rfl
  cases t4; rotate_left; rfl
  cases t5; rotate_left; rfl
  cases t6; rotate_left; rfl
  cases t7; rotate_left; rfl
  cases t8; rotate_left; rfl
  cases t9; rotate_left; rfl
  cases t10; rotate_left; rfl
  cases t11; rotate_left; rfl
  cases t12; rotate_left; rfl
  cases t13 <;> rfl
end Go.Proofs.Ytijabmpcicddbaa.PlaneLearns.Vl

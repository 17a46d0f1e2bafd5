/- Lemmas for VlanFirst: what its functions come to. -/
import Derived.Test.YtijabmpcicddbaaVlanFirstU
import Derived.Test.YtijabmpcicddbaaVe37
set_option linter.unusedVariables false
set_option linter.unusedSimpArgs false
set_option maxHeartbeats 1000000
namespace Go.Proofs.Ytijabmpcicddbaa.VlanFirst
open Go.Ve
open Mem (sortI rowI sortI_perm sortI_sorted sorted_uniq)
def fI (q : Nat → Bool) : Nat → Option Nat
  | 0 => none
  | n + 1 => match fI q n with | some j => some j | none => bif q n then some n else none
theorem fI_succ (q : Nat → Bool) (n : Nat) : fI q (n + 1) = match fI q n with | some j => some j | none => bif q n then some n else none := rfl
theorem fI_none {q : Nat → Bool} : ∀ {n : Nat}, fI q n = none ↔ ∀ j, j < n → q j = false
  | 0 => ⟨fun _ j h => absurd h (Nat.not_lt_zero j), fun _ => rfl⟩
  | n + 1 => by
    have ih := fI_none (q := q) (n := n)
    rw [fI_succ]
    cases h : fI q n with
    | some j =>
      refine ⟨(fun h2 => nomatch h2), fun h2 => ?_⟩
      rw [ih.2 fun j hj => h2 j (by omega)] at h
      cases h
    | none =>
      have h1 := ih.1 h
      cases h2 : q n with
      | true => exact ⟨(fun h3 => nomatch h3), fun h3 => by rw [h3 n (Nat.lt_succ_self n)] at h2; cases h2⟩
      | false => exact ⟨fun _ j hj => by
          rcases Nat.lt_succ_iff_lt_or_eq.1 hj with h3 | rfl
          · exact h1 j h3
          · exact h2, fun _ => rfl⟩
theorem fI_some {q : Nat → Bool} : ∀ {n r : Nat}, r < n → q r = true → (∀ j, j < r → q j = false) → fI q n = some r
  | n + 1, r, hr, h1, h2 => by
    rw [fI_succ]
    rcases Nat.lt_succ_iff_lt_or_eq.1 hr with h3 | rfl
    · rw [fI_some h3 h1 h2]
    · rw [fI_none.2 h2, h1]; rfl
theorem fI_lt {q : Nat → Bool} : ∀ {n r : Nat}, fI q n = some r → r < n ∧ q r = true
  | n + 1, r, h => by
    rw [fI_succ] at h
    cases h1 : fI q n with
    | some j =>
      rw [h1] at h
      have e : j = r := Option.some.inj h
      subst e
      have := fI_lt h1
      exact ⟨by omega, this.2⟩
    | none =>
      rw [h1] at h
      cases h2 : q n with
      | true => rw [h2] at h; have e : n = r := Option.some.inj h; subst e; exact ⟨Nat.lt_succ_self _, h2⟩
      | false => rw [h2] at h; cases h
def vi (f : Nat → Nat → PV) (n : Nat) (v : Int) : Option Nat := fI (fun j => numOf (f j 0) == v) n
def bitm (a p : Int) : Bool := (bits .and .u8 (shrI .u8 a p) 1) == 1
def tagv (tg p : Int) : Int := IntKind.i64.wrap (bits .and .u8 (shrI .u8 tg p) 1)
def mE (tg : Int) (p : Nat) : List PV × List PV := ([.val (.int .i64 (p : Int))], [.val (.int .i64 (tagv tg (p : Int)))])
def isM (m : Int) (p : Nat) : Bool := decide (p < 8) && bitm m (p : Int)
def mList (m tg : Int) (k : Nat) : MapL := ((List.range k).filter (isM m)).map (mE tg)
theorem keyEq1 (p q : Int) : keyEq [.val (.int .i64 p)] [.val (.int .i64 q)] = decide (p = q) := by
  show (pvEq _ _ && true) = _
  by_cases h : p = q <;> simp [pvEq, h]
theorem mhas_map (tg p : Int) : ∀ (l : List Nat), mhas (l.map (mE tg)) [.val (.int .i64 p)] = l.any fun j => decide (p = (j : Int))
  | [] => rfl
  | j :: l => by
    show (keyEq _ _ || mhas (l.map (mE tg)) _) = _
    rw [mhas_map tg p l]
    unfold mE
    rw [keyEq1]
    rfl
theorem mget_map (tg : Int) (p : Nat) : ∀ (l : List Nat), p ∈ l → mget (l.map (mE tg)) [.val (.int .i64 (p : Int))] = [.val (.int .i64 (tagv tg (p : Int)))]
  | j :: l, h => by
    show (bif keyEq _ (mE tg j).1 then (mE tg j).2 else mget (l.map (mE tg)) _) = _
    unfold mE
    rw [keyEq1]
    by_cases hj : (p : Int) = (j : Int)
    · rw [dec_t hj, cond_true, hj]
    · rw [dec_f hj, cond_false]
      rcases List.mem_cons.1 h with e | h
      · exact absurd (by rw [e]) hj
      · exact mget_map tg p l h
theorem mput_new (k v : List PV) : ∀ (l : MapL), mhas l k = false → mput l k v = l ++ [(k, v)]
  | [], _ => rfl
  | e :: r, h => by
    have h1 : (keyEq k e.1 || mhas r k) = false := h
    rw [Bool.or_eq_false_iff] at h1
    show (bif keyEq k e.1 then (k, v) :: r else e :: mput r k v) = _
    rw [h1.1, cond_false, mput_new k v r h1.2]
    rfl
theorem mhas_list (m tg : Int) (k : Nat) (p : Int) : mhas (mList m tg k) [.val (.int .i64 p)] = (decide (0 ≤ p ∧ p < k) && isM m p.toNat) := by
  unfold mList
  rw [mhas_map, Bool.eq_iff_iff, List.any_eq_true, Bool.and_eq_true, decide_eq_true_eq]
  constructor
  · rintro ⟨j, hj, h⟩
    have hj := List.mem_filter.1 hj
    have e := of_decide_eq_true h
    have := List.mem_range.1 hj.1
    rw [e, Int.toNat_natCast]
    exact ⟨⟨by omega, by omega⟩, hj.2⟩
  · rintro ⟨⟨h1, h2⟩, h3⟩
    exact ⟨p.toNat, List.mem_filter.2 ⟨List.mem_range.2 (by omega), h3⟩, decide_eq_true (by omega)⟩
theorem mcell_list (m tg : Int) (k : Nat) (p : Nat) (hp : p < k) (h : isM m p = true) : mcell (mList m tg k) [.val (.int .i64 (p : Int))] 0 = .val (.int .i64 (tagv tg (p : Int))) := by
  unfold mcell mList
  rw [mget_map tg p _ (List.mem_filter.2 ⟨List.mem_range.2 hp, h⟩)]
  rfl
theorem mList_succ (m tg : Int) (k : Nat) : mList m tg (k + 1) = bif isM m k then mList m tg k ++ [mE tg k] else mList m tg k := by
  unfold mList
  rw [List.range_succ, List.filter_append, List.map_append, List.filter_cons]
  cases isM m k with
  | true => rfl
  | false => exact List.append_nil _
def memL (vf : Nat → Nat → PV) (vn pn : Nat) (v : Int) : MapL := match vi vf vn v with | some j => mList (numOf (vf j 1)) (numOf (vf j 2)) pn | none => []
def memP (vf : Nat → Nat → PV) (vn : Nat) (v p : Int) : Bool := match vi vf vn v with | some j => decide (0 ≤ p) && (decide (p < 8) && bitm (numOf (vf j 1)) p) | none => false
theorem memL_has (vf : Nat → Nat → PV) (vn pn : Nat) (v p : Int) (h0 : 0 ≤ p) (h1 : p < pn) : mhas (memL vf vn pn v) [.val (.int .i64 p)] = memP vf vn v p := by
  unfold memL memP
  cases vi vf vn v with
  | none => rfl
  | some j =>
    show mhas (mList _ _ pn) _ = _
    rw [mhas_list, dec_t ⟨h0, h1⟩, dec_t h0]
    unfold isM
    rw [show ((p.toNat : Nat) : Int) = p by omega, show decide (p.toNat < 8) = decide (p < 8) from decide_eq_decide.2 (by omega)]
theorem memL_off (vf : Nat → Nat → PV) (vn pn : Nat) (v p : Int) (h : ¬ (0 ≤ p ∧ p < pn)) : mhas (memL vf vn pn v) [.val (.int .i64 p)] = false := by
  unfold memL
  cases vi vf vn v with
  | none => rfl
  | some j => rw [mhas_list, dec_f h]; rfl
def inV (pf : Nat → Nat → PV) (pn : Nat) (vf : Nat → Nat → PV) (vn : Nat) (p : Int) (tag : Bool) (vid : Int) : Option Int :=
  bif decide (0 ≤ p ∧ p < pn) && boolOf (pf p.toNat 0) then
    let v := bif tag && vid != 0 then vid else numOf (pf p.toNat 2)
    bif memP vf vn v p then some v else none
  else none
theorem vi_at {vf : Nat → Nat → PV} {vn : Nat} {v : Int} {r : Nat} (h : vi vf vn v = some r) : r < vn ∧ numOf (vf r 0) = v := ⟨(fI_lt h).1, eq_of_beq (fI_lt h).2⟩
theorem u8_wraps : ∀ n : Int, 0 ≤ n → n < 2 ^ 8 → IntKind.u8.wrap n = n := fun n a b => u8_id a (by rw [p8] at b; exact b)
theorem tag_bit {tg : Int} (h0 : 0 ≤ tg) (h1 : tg ≤ 255) {p : Nat} (hp : p < 8) : (tagv tg (p : Int) == 1) = bitm tg (p : Int) := by
  have e : shrI .u8 tg (p : Int) = tg / (2 ^ p : Int) := shr_div .u8 tg p (by show p ≤ 8; omega)
  have hpos : (0 : Int) < 2 ^ p := Int.pow_pos (by decide)
  have hx0 : 0 ≤ tg / (2 ^ p : Int) := Int.ediv_nonneg h0 (Int.le_of_lt hpos)
  have hx1 : tg / (2 ^ p : Int) ≤ 255 := Int.le_trans (Int.ediv_le_self _ h0) h1
  have hm : bits .and .u8 (tg / (2 ^ p : Int)) 1 = tg / (2 ^ p : Int) % 2 := bits_mask .u8 8 (by decide) u8_wraps 1 (by decide) _ hx0 (by rw [p8]; omega)
  unfold tagv bitm
  rw [e, hm, i64_id (by omega) (by omega)]
def outV (pf : Nat → Nat → PV) (pn : Nat) (vf : Nat → Nat → PV) (vn : Nat) (v p : Int) : Option Nat :=
  bif decide (0 ≤ p ∧ p < pn) && (boolOf (pf p.toNat 0) && decide (1 ≤ v ∧ v ≤ 4094)) then
    match vi vf vn v with
    | some r => bif decide (p < 8) && bitm (numOf (vf r 1)) p then some r else none
    | none => none
  else none
theorem clone_b {α : Type} (bnl : Bool) {bn : Nat} (hb : bn ≤ 1000000) (bf : Nat → Nat → PV) (k0 : Bool → Nat → (Nat → Nat → PV) → Option α) : slices_Clone_byte bnl bn bf k0 = bif bnl then k0 true 0 (fun _ _ => .val undef) else k0 false bn bf := by
  unfold slices_Clone_byte slices_Clone_byte_T
  rw [catf_zero, Nat.zero_add, Nat.mul_one, ble_true (show bn ≤ bound by unfold bound; omega), cond_true]
def mNums (m : Int) (k : Nat) : List Int := ((List.range k).filter (isM m)).map fun p : Nat => (p : Int)
theorem mNums_succ (m : Int) (k : Nat) : mNums m (k + 1) = bif isM m k then mNums m k ++ [(k : Int)] else mNums m k := by
  unfold mNums
  rw [List.range_succ, List.filter_append, List.map_append, List.filter_cons]
  cases isM m k with
  | true => rfl
  | false => exact List.append_nil _
theorem keysI_list (m tg : Int) (k : Nat) : keysI (mList m tg k) = mNums m k := by
  unfold keysI mList mNums
  rw [List.map_map]
  rfl
theorem mNums_sorted (m : Int) (k : Nat) : (mNums m k).Pairwise (· ≤ ·) := by
  unfold mNums
  rw [List.pairwise_map]
  refine List.Pairwise.filter _ ?_
  exact List.pairwise_lt_range.imp fun h => by omega
theorem mNums_8 (m : Int) (k : Nat) (h : 8 ≤ k) : mNums m k = mNums m 8 := by
  induction k with
  | zero => omega
  | succ k ih =>
    rcases Nat.eq_or_lt_of_le h with e | h'
    · rw [← e]
    · rw [mNums_succ, show isM m k = false by unfold isM; rw [dec_f (by omega)]; rfl, cond_false]
      exact ih (by omega)
def NL (n : Nat) (f : Nat → Nat → PV) (L : List Int) : Prop := L.length = n ∧ ∀ j (h : j < L.length), numOf (f j 0) = L[j]
theorem NL.row (L : List Int) : NL L.length (rowI L) L := ⟨rfl, fun j h => by
  show numOf (.val (.int .i64 (L.getD j 0))) = _
  rw [List.getD_eq_getElem?_getD, List.getElem?_eq_getElem h]
  rfl⟩
theorem NL.snoc {n : Nat} {f : Nat → Nat → PV} {L : List Int} (h : NL n f L) (x : Int) : NL (n + 1) (catf n f (rowOf 1 [.val (.int .i64 x)])) (L ++ [x]) := by
  refine ⟨by rw [List.length_append, h.1]; rfl, fun j hj => ?_⟩
  have hn := h.1
  rw [List.length_append, List.length_singleton] at hj
  by_cases hl : j < L.length
  · rw [catf_lo (by omega), List.getElem_append_left hl]
    exact h.2 j hl
  · have e : j = n := by omega
    subst e
    have := catf_hi j f (rowOf 1 [.val (.int .i64 x)]) 0 0
    rw [Nat.add_zero] at this
    rw [this, List.getElem_append_right (by omega)]
    simp only [hn, Nat.sub_self]
    rfl
def memN (vf : Nat → Nat → PV) (vn pn : Nat) (v : Int) : List Int := match vi vf vn v with | some j => mNums (numOf (vf j 1)) pn | none => []
theorem memRow_eq (vf : Nat → Nat → PV) (vn pn : Nat) (v : Int) : NL (memL vf vn pn v).length (memRow (memL vf vn pn v)) (memN vf vn pn v) ∧ (memL vf vn pn v).length ≤ pn := by
  unfold memRow
  have hk : keysI (memL vf vn pn v) = memN vf vn pn v := by
    unfold memL memN
    cases vi vf vn v with
    | none => rfl
    | some j => exact keysI_list _ _ _
  have hs : sortI (memN vf vn pn v) = memN vf vn pn v := sorted_uniq (sortI_perm _) (sortI_sorted _) (by
    unfold memN
    cases vi vf vn v with
    | none => exact List.Pairwise.nil
    | some j => exact mNums_sorted _ _)
  have hl : (memL vf vn pn v).length = (memN vf vn pn v).length := by rw [← hk]; unfold keysI; rw [List.length_map]
  rw [hk, hs, hl]
  refine ⟨NL.row _, ?_⟩
  unfold memN
  cases vi vf vn v with
  | none => exact Nat.zero_le _
  | some j =>
    show (mNums _ pn).length ≤ pn
    unfold mNums
    rw [List.length_map]
    exact Nat.le_trans (List.length_filter_le (isM (numOf (vf j 1))) (List.range pn)) (Nat.le_of_eq List.length_range)
def Uq (vf : Nat → Nat → PV) (vn : Nat) : Prop := ∀ i j, i < j → j < vn → numOf (vf i 0) ≠ numOf (vf j 0)
theorem cell_u8 {n : Nat} {k : CK} {e : Nat} {f : Nat → Nat → PV} {nl : Bool} (h : PvOk (.sl nl k e n f)) (kk : RowK k n f) (c : Nat) (hc : c < e) (hk : ∃ r, kDrop k c = .int .u8 r) : ∀ j, j < n → 0 ≤ numOf (f j c) ∧ numOf (f j c) ≤ 255 := by
  intro j hj
  have h1 := (pv_sl h).2.2 j hj c hc
  have h2 := kk j hj c
  obtain ⟨r, hr⟩ := hk
  rw [hr] at h2
  obtain ⟨m, hm⟩ := h2
  rw [hm] at h1 ⊢
  exact pv_u8 h1
end Go.Proofs.Ytijabmpcicddbaa.VlanFirst

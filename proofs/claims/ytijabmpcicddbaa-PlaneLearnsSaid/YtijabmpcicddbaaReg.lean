/- A region that draws its order, whose last operation waits for all others: the others, then the last. -/
import Derived.OrdersIn
import Derived.Sort.QuietThIn
import Derived.WalkKit
set_option linter.unusedVariables false
set_option linter.unusedSimpArgs false
namespace Go.Proofs.Ytijabmpcicddbaa.Reg
open Go
variable {F : Fence} {n : Nat} {P : Program} {md : Region.Mode}
/-- what stands behind the others -/
def Lst (F : Fence) (n : Nat) (P : Program) (ops : Array Oper) (o : Oper) (Q : Exit → Act → World → Prop) : Exit → Act → World → Prop
  | .normal, a, w => wpOpIn F n P (ops.push o) Q ops.size (fun a w => Q .normal a w) a w
  | x, a, w => Q x a w
theorem opQ {o' : Oper} {Q Q' : Exit → Act → World → Prop} (hQ : ∀ c a w, Q' (.panic c) a w → Q (.panic c) a w) (hO : LetsOut Q' → LetsOut Q) {a : Act} {w : World} {K K' : Act → World → Prop} (h : ∀ a w, K a w → K' a w)
    (hh : o'.wpIn F n P a w K Q') : o'.wpIn F n P a w K' Q := by
  unfold Oper.wpIn at *
  refine ⟨hh.1, ?_⟩
  have hh := hh.2
  generalize (o'.semAt F.round a.eval).run P w = r at *
  cases r with
  | ok x w' =>
    cases x <;> simp only [Oper.uponIn] at hh ⊢ <;>
      first
        | exact h _ _ hh
        | exact ⟨hh.1, CallsIn.mono hh.2 (fun e w'' he => by cases e <;> first | exact h _ _ he | exact hQ _ _ _ he | exact hO he | exact he)⟩
        | exact ⟨hh.1, RowsIn.mono hh.2 (fun _ _ he => h _ _ he)⟩
        | exact ⟨hh.1, RoundIn.mono hh.2 (fun e w'' he => by cases e <;> first | exact h _ _ he | exact hQ _ _ _ he | exact hO he | exact he)⟩
  | halt x w' => cases x <;> simp only [Oper.uponIn] at hh ⊢ <;> first | exact hQ _ _ _ hh | exact hh
theorem opQ' {ops : Array Oper} {o : Oper} {Q : Exit → Act → World → Prop} (hg : ∀ (i : Nat) (oi : Oper), ops[i]? = some oi → oi.guard = none) {i : Nat} (hi : i < ops.size) {a : Act} {w : World} {K K' : Act → World → Prop} (h : ∀ a w, K a w → K' a w)
    (hh : wpOpIn F n P ops (Lst F n P ops o Q) i K a w) : wpOpIn F n P (ops.push o) Q i K' a w := by
  unfold wpOpIn at *
  obtain ⟨oi, ho⟩ : ∃ oi, ops[i]? = some oi := ⟨ops[i], Array.getElem?_eq_getElem hi⟩
  have ho' : (ops.push o)[i]? = some oi := by rw [Array.getElem?_push, if_neg (by omega)]; exact ho
  have hw : ∀ y, Region.wanted oi y = true := fun y => by simp [Region.wanted, hg i oi ho]
  simp only [ho, ho', hw, if_true] at *
  exact opQ (fun c a w h => h) (fun h => h) h hh
theorem getD_push {l : Array Bool} {i : Nat} (h : i < l.size) (d : Bool) : (l.push false).getD i d = l.getD i d := by
  simp [Array.getD, h, Nat.lt_succ_of_lt h, Array.getElem_push_lt h]
theorem getD_top (l : Array Bool) (d : Bool) : (l.push false).getD l.size d = false := by simp [Array.getD]
theorem any_push {ops : Array Oper} {o : Oper} {Q : Exit → Act → World → Prop} (hg : ∀ (i : Nat) (oi : Oper), ops[i]? = some oi → oi.guard = none)
    (hwait : ∀ i : Nat, i < ops.size → ∃ e ∈ o.after, Region.binds md e = true ∧ e.on = i) (hin : ∀ e ∈ o.after, Region.binds md e = true → e.on < ops.size)
    (hdown : ∀ (i : Nat) (oi : Oper), ops[i]? = some oi → ∀ e ∈ oi.after, Region.binds md e = true → e.on < i) :
    ∀ (fuel : Nat) (listed : Array Bool) (a : Act) (w : World), listed.size = ops.size → wpAnyIn F n P md ops (Lst F n P ops o Q) fuel listed a w → wpAnyIn F n P md (ops.push o) Q (fuel + 1) (listed.push false) a w := by
  -- which may come up
  have low : ∀ (listed : Array Bool), listed.size = ops.size → ∀ i, i < ops.size → (i ∈ Region.ready md (ops.push o) (listed.push false) ↔ i ∈ Region.ready md ops listed) := by
    intro listed hl i hi
    rw [mem_ready, mem_ready, getD_push (by omega)]
    have he : (ops.push o)[i]? = ops[i]? := by rw [Array.getElem?_push, if_neg (by omega)]
    rw [he]
    constructor
    · rintro ⟨h1, oi, h2, h3⟩
      exact ⟨h1, oi, h2, fun e h4 h5 => by rw [← getD_push (l := listed) (by have := hdown i oi h2 e h4 h5; omega)]; exact h3 e h4 h5⟩
    · rintro ⟨h1, oi, h2, h3⟩
      exact ⟨h1, oi, h2, fun e h4 h5 => by rw [getD_push (l := listed) (by have := hdown i oi h2 e h4 h5; omega)]; exact h3 e h4 h5⟩
  have top : ∀ (listed : Array Bool), listed.size = ops.size → (ops.size ∈ Region.ready md (ops.push o) (listed.push false) ↔ ∀ i, i < ops.size → listed.getD i false = true) := by
    intro listed hl
    rw [mem_ready]
    have he : (ops.push o)[ops.size]? = some o := by simp
    constructor
    · rintro ⟨_, oi, h2, h3⟩ i hi
      rw [he] at h2
      cases h2
      obtain ⟨e, h4, h5, rfl⟩ := hwait i hi
      rw [← getD_push (l := listed) (by omega)]
      exact h3 e h4 h5
    · intro h
      refine ⟨by rw [← hl]; exact getD_top listed true, o, he, fun e h4 h5 => ?_⟩
      rw [getD_push (l := listed) (by have := hin e h4 h5; omega)]
      exact h _ (hin e h4 h5)
  have all : ∀ (listed : Array Bool), listed.size = ops.size → Region.ready md ops listed = [] → ∀ i, i < ops.size → listed.getD i false = true := by
    intro listed hl hr i
    induction i using Nat.strongRecOn with
    | ind i ih =>
      intro hi
      cases hb : listed.getD i false with
      | true => rfl
      | false =>
        exfalso
        have : i ∈ Region.ready md ops listed := by
          rw [mem_ready]
          refine ⟨?_, ops[i], Array.getElem?_eq_getElem hi, fun e h4 h5 => ?_⟩
          · simp [Array.getD, hl, hi] at hb ⊢; exact hb
          · have := hdown i _ (Array.getElem?_eq_getElem hi) e h4 h5
            exact ih _ this (by omega)
        rw [hr] at this; cases this
  -- the last one
  have last : ∀ (fuel : Nat) (listed : Array Bool) (a : Act) (w : World), listed.size = ops.size → Region.ready md ops listed = [] → Lst F n P ops o Q .normal a w → wpAnyIn F n P md (ops.push o) Q (fuel + 1) (listed.push false) a w := by
    intro fuel listed a w hl hr h
    have hall := all listed hl hr
    have htop := (top listed hl).2 hall
    have hend : Region.ready md (ops.push o) ((listed.push false).setIfInBounds ops.size true) = [] := by
      apply List.eq_nil_iff_forall_not_mem.2
      intro j hj
      have h1 := (mem_ready.1 hj).1
      by_cases hje : j = ops.size
      · subst hje
        simp [Array.getD, hl] at h1
      · by_cases hjl : j < ops.size
        · have h2 := hall j hjl
          simp [Array.getD, hl, hjl, Nat.lt_succ_of_lt hjl, Array.getElem_setIfInBounds, Ne.symm hje, Array.getElem_push_lt] at h1 h2
          rw [h1] at h2; cases h2
        · simp [Array.getD, hl, show ¬ j < ops.size + 1 by omega] at h1
    refine ⟨fun h0 => (by rw [h0] at htop; cases htop), fun j hj => ?_⟩
    have hje : j = ops.size := by
      by_cases hjl : j < ops.size
      · have := (low listed hl j hjl).1 hj
        rw [hr] at this; cases this
      · obtain ⟨h1, oj, h2, _⟩ := mem_ready.1 hj
        have := (Array.getElem?_eq_some_iff.1 h2).1
        simp at this
        omega
    subst hje
    refine wpOpIn_mono (fun a w hq => ?_) h
    cases fuel with
    | zero => exact ⟨hend, hq⟩
    | succ fuel => exact ⟨fun _ => hq, fun j hj => by rw [hend] at hj; cases hj⟩
  intro fuel
  induction fuel with
  | zero =>
    intro listed a w hl h
    exact last 0 listed a w hl h.1 h.2
  | succ fuel ih =>
    intro listed a w hl h
    by_cases hr : Region.ready md ops listed = []
    · exact last _ listed a w hl hr (h.1 hr)
    · obtain ⟨i0, hi0⟩ := List.exists_mem_of_ne_nil _ hr
      have hlt : ∀ j, j ∈ Region.ready md (ops.push o) (listed.push false) → j < ops.size := fun j hj => by
        obtain ⟨h1, oj, h2, _⟩ := mem_ready.1 hj
        have := (Array.getElem?_eq_some_iff.1 h2).1
        simp at this
        rcases Nat.lt_or_ge j ops.size with h | h
        · exact h
        · exfalso
          obtain rfl : j = ops.size := by omega
          have hall := (top listed hl).1 hj
          obtain ⟨g1, o0, g2, _⟩ := mem_ready.1 hi0
          have hi0s := (Array.getElem?_eq_some_iff.1 g2).1
          have := hall i0 hi0s
          simp [Array.getD, hl, hi0s] at g1 this
          rw [g1] at this; cases this
      have hi0s := (Array.getElem?_eq_some_iff.1 (mem_ready.1 hi0).2.choose_spec.1).1
      have hi0' := (low listed hl i0 hi0s).2 hi0
      refine ⟨fun h0 => (by rw [h0] at hi0'; cases hi0'), fun j hj => ?_⟩
      have hjs := hlt j hj
      have h1 := h.2 j ((low listed hl j hjs).1 hj)
      refine opQ' hg hjs (fun a w hk => ?_) h1
      have := ih (listed.setIfInBounds j true) a w (by simpa using hl) hk
      rw [show (listed.push false).setIfInBounds j true = (listed.setIfInBounds j true).push false from ?_]
      · exact this
      · apply Array.ext'
        simp only [Array.toList_setIfInBounds, Array.toList_push]
        rw [List.set_append_left _ _ (by rw [Array.length_toList]; omega)]
theorem op_of_q {o : Oper} {C : World → Prop} (hnd : ∀ c, o.op ≠ .defer c) {a : Act} {K : Act → Prop} {K' : Act → World → Prop} {Q' : Exit → Act → World → Prop} {w : World} (hw : C w) (h : ∀ a w', C w' → K a → K' a w')
    (ha : o.askedIn F P a C) (hh : o.quietIn F n P a C K) : o.wpIn F n P a w K' Q' := by
  obtain ⟨v, h1, h2⟩ := hh
  have h3 := h1 w hw
  unfold Oper.quietAtIn at h3
  refine ⟨ha w hw, ?_⟩
  rw [Oper.semAt_eq _ _ _ hnd]
  rcases hr : (execOp a.eval o).run P w with ⟨x, w'⟩ | ⟨x, w'⟩
  · rw [hr] at h3
    cases x <;> simp only [Oper.quietUponIn] at h3 <;> simp only [Oper.uponIn]
    case value u => rw [h3.1, h3.2]; exact h _ _ hw h2
    case skip => rw [h3.1, ← h3.2]; exact h _ _ hw h2
    case enter f args =>
      rw [h3.1]
      exact ⟨h3.2.1, h3.2.2.mono fun e w'' he => by rw [he.1]; exact h _ _ he.2 h2⟩
  · rw [hr] at h3; simp only [Oper.quietUponIn] at h3
theorem any_of_q {ops : Array Oper} {C : World → Prop} {Q : Act → Prop} {Q' : Exit → Act → World → Prop} (hnd : ∀ (i : Nat) (oi : Oper), ops[i]? = some oi → ∀ c, oi.op ≠ .defer c) (hQ : ∀ a w, C w → Q a → Q' .normal a w) : ∀ (fuel : Nat) (listed : Array Bool) (a : Act) (w : World), C w →
    wpAnyQIn F n P md ops C Q fuel listed a → wpAnyIn F n P md ops Q' fuel listed a w
  | 0, _, _, _, hw, h => ⟨h.1, hQ _ _ hw h.2⟩
  | fuel + 1, _, _, _, hw, h => ⟨fun h0 => hQ _ _ hw (h.1 h0), fun i hi => by
    have h1 := h.2 i hi
    unfold qOpIn at h1
    unfold wpOpIn
    cases ho : ops[i]? with
    | none => simp only [ho] at h1; exact any_of_q hnd hQ fuel _ _ _ hw h1
    | some oi =>
      simp only [ho] at h1 ⊢
      obtain ⟨ha, h1⟩ := h1
      split
      · rename_i hwn
        simp only [hwn, if_true] at h1
        exact op_of_q (hnd i oi ho) hw (fun a' w' hw' => any_of_q hnd hQ fuel _ a' w' hw') ha h1
      · rename_i hwn
        simp only [hwn] at h1
        exact ⟨ha _ hw, any_of_q hnd hQ fuel _ _ _ hw h1⟩⟩
/-- the others yield their values in every world of the class; the last stands behind them, in each of these worlds -/
theorem wpIn_region_last {id : Nat} {Q : Exit → Act → World → Prop} {a : Act} {w : World} {l : List Oper} {o : Oper} {C : World → Prop} (hm : P.follows .mixedOrders = true) (hB : Region.lexB .any l.toArray = true) (hC : C { w with drawn := w.drawn + 1 })
    (hnd : ∀ (i : Nat) (oi : Oper), l.toArray[i]? = some oi → ∀ c, oi.op ≠ .defer c) (hg : ∀ (i : Nat) (oi : Oper), l.toArray[i]? = some oi → oi.guard = none) (hwait : ∀ i : Nat, i < l.toArray.size → ∃ e ∈ o.after, Region.binds .any e = true ∧ e.on = i) (hin : ∀ e ∈ o.after, Region.binds .any e = true → e.on < l.toArray.size)
    (hdown : ∀ (i : Nat) (oi : Oper), l.toArray[i]? = some oi → ∀ e ∈ oi.after, Region.binds .any e = true → e.on < i)
    (h : wpQuietIn F n P l.toArray C (fun a' => ∀ w', C w' → wpOpIn F n P (l.toArray.push o) Q l.toArray.size (fun a w => Q .normal a w) a' w') l a) : (Code.region id (l.toArray.push o) true).wpIn F n P Q a w := by
  simp only [Region.lexB, Bool.and_eq_true] at hB
  refine wpIn_region_any hm ?_
  have hq := wpAnyQIn_lex (F := F) (n := n) (P := P) (C := C) (md := .any) hB.1 l 0 (Array.replicate l.length false) a (by simp) (by simpa using hB.2) h
  have h1 := any_of_q hnd (Q := fun a' => ∀ w', C w' → wpOpIn F n P (l.toArray.push o) Q l.toArray.size (fun a w => Q .normal a w) a' w') (Q' := Lst F n P l.toArray o Q) (fun _ w' hw' h => h w' hw') _ _ _ _ hC hq
  have h2 := any_push hg hwait hin hdown l.length (Array.replicate l.length false) a _ (by simp) h1
  rw [← Array.replicate_succ] at h2
  simpa using h2
/-- the last waits for all, the others for earlier ones alone; no guards -/
def isDefer : Op → Bool
  | .defer _ => true
  | _ => false
def chk (l : List Oper) (o : Oper) : Bool :=
  l.all (fun oi => oi.guard.isNone && !isDefer oi.op) && ((List.range l.length).all (fun i => o.after.any fun e => Region.binds .any e && e.on == i) && (o.after.all (fun e => !Region.binds .any e || Nat.blt e.on l.length) &&
    (List.range l.length).all (fun i => match l[i]? with | some oi => oi.after.all (fun e => !Region.binds .any e || Nat.blt e.on i) | none => true)))
theorem wpIn_region_lastK {id : Nat} {Q : Exit → Act → World → Prop} {a : Act} {w : World} {ops : Array Oper} (l : List Oper) (o : Oper) (he : ops = l.toArray.push o) {C : World → Prop} (hm : P.follows .mixedOrders = true) (hB : Region.lexB .any l.toArray = true) (hC : C { w with drawn := w.drawn + 1 }) (hc : chk l o = true)
    (h : wpQuietIn F n P l.toArray C (fun a' => ∀ w', C w' → wpOpIn F n P (l.toArray.push o) Q l.toArray.size (fun a w => Q .normal a w) a' w') l a) : (Code.region id ops true).wpIn F n P Q a w := by
  subst he
  unfold chk at hc
  rw [Bool.and_eq_true, Bool.and_eq_true, Bool.and_eq_true, List.all_eq_true, List.all_eq_true, List.all_eq_true] at hc
  simp only [List.mem_range] at hc
  obtain ⟨c1, c2, c3, c4⟩ := hc
  refine wpIn_region_last hm hB hC (fun i oi hi c hd => ?_) (fun i oi hi => ?_) (fun i hi => ?_) (fun e h1 h2 => ?_) (fun i oi hi e h1 h2 => ?_) h
  · have hm : oi ∈ l := List.mem_of_getElem? (by simpa using hi)
    have := ((Bool.and_eq_true _ _).mp (c1 oi hm)).2
    rw [hd] at this; cases this
  · have hm : oi ∈ l := List.mem_of_getElem? (by simpa using hi)
    have := ((Bool.and_eq_true _ _).mp (c1 oi hm)).1
    cases hgd : oi.guard with
    | none => rfl
    | some g => rw [hgd] at this; cases this
  · have := c2 i (by simpa using hi)
    rw [Array.any_eq_true'] at this
    obtain ⟨e, h1, h2⟩ := this
    simp only [Bool.and_eq_true, beq_iff_eq] at h2
    exact ⟨e, h1, h2⟩
  · rw [Array.all_eq_true'] at c3
    have := c3 e h1
    rw [h2] at this
    have q : e.on < l.length := Nat.le_of_ble_eq_true (by simpa [Nat.blt] using this)
    simpa using q
  · have hi' : l[i]? = some oi := by simpa using hi
    have hlt := (List.getElem?_eq_some_iff.1 hi').1
    have := c4 i hlt
    rw [hi'] at this
    simp only at this
    rw [Array.all_eq_true'] at this
    have := this e h1
    rw [h2] at this
    exact Nat.le_of_ble_eq_true (by simpa [Nat.blt] using this)
theorem wpIn_region_lastL {id : Nat} {Q : Exit → Act → World → Prop} {a : Act} {w : World} {L : List Oper} (hL : L ≠ []) (hm : P.follows .mixedOrders = true) (hB : Region.lexB .any L.dropLast.toArray = true) (hc : chk L.dropLast (L.getLast hL) = true)
    (h : wpQuietIn F n P L.dropLast.toArray (fun w' => ∃ n, w' = w.drewN n) (fun a' => ∀ w', (∃ n, w' = w.drewN n) → wpOpIn F n P L.toArray Q L.dropLast.length (fun a w => Q .normal a w) a' w') L.dropLast a) : (Code.region id L.toArray true).wpIn F n P Q a w := by
  have e : L.toArray = L.dropLast.toArray.push (L.getLast hL) := by
    apply Array.ext'
    simp [List.dropLast_concat_getLast]
  refine wpIn_region_lastK L.dropLast (L.getLast hL) e (C := fun w' => ∃ n, w' = w.drewN n) hm hB ⟨1, rfl⟩ hc ?_
  rw [← e]
  simpa using h
theorem lastOp {ops : Array Oper} {i : Nat} {o : Oper} {a : Act} {w : World} {K : Act → World → Prop} {Q : Exit → Act → World → Prop} (ho : ops[i]? = some o) (hg : o.guard = none) (h : o.wpIn F n P a w K Q) : wpOpIn F n P ops Q i K a w := by
  unfold wpOpIn
  simp only [ho]
  rw [if_pos (by simp [Region.wanted, hg])]
  exact h
end Go.Proofs.Ytijabmpcicddbaa.Reg

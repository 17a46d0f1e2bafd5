/- The evaluator ("VE"): plain laws of tables of addresses, as lists of entries: found, put in, aged, let go. -/
import Derived.Test.YtijabmpcicddbaaVe26
set_option linter.unusedVariables false
set_option linter.unusedSimpArgs false
namespace Go.Ve
structure En where
  mac : Int
  vlan : Int
  port : Int
  seen : Int
def enz : En := ⟨0, 0, 0, 0⟩
/-- is an entry's key less than (v, m)? -/
def kl (e : En) (v m : Int) : Bool := decide (e.vlan < v) || (decide (e.vlan = v) && decide (e.mac < m))
def ke (e : En) (v m : Int) : Bool := decide (e.vlan = v) && decide (e.mac = m)
theorem kl_iff {e : En} {v m : Int} : kl e v m = true ↔ e.vlan < v ∨ e.vlan = v ∧ e.mac < m := by simp [kl]
theorem kl_ff {e : En} {v m : Int} : kl e v m = false ↔ ¬ (e.vlan < v ∨ e.vlan = v ∧ e.mac < m) := by rw [← kl_iff]; simp
theorem ke_iff {e : En} {v m : Int} : ke e v m = true ↔ e.vlan = v ∧ e.mac = m := by simp [ke]
theorem ke_ff {e : En} {v m : Int} : ke e v m = false ↔ ¬ (e.vlan = v ∧ e.mac = m) := by rw [← ke_iff]; simp
def Srt (L : List En) : Prop := L.Pairwise fun a b => kl a b.vlan b.mac = true
theorem Srt.at {L : List En} (h : Srt L) {i j : Nat} (hj : j < L.length) (hij : i < j) : kl (L[i]'(by omega)) L[j].vlan L[j].mac = true := List.pairwise_iff_getElem.1 h i j (by omega) hj hij
def pos : List En → Int → Int → Nat
  | [], _, _ => 0
  | e :: L, v, m => bif kl e v m then pos L v m + 1 else 0
/-- a place that parts what is less from what is not -/
structure Cut (L : List En) (v m : Int) (p : Nat) : Prop where
  le : p ≤ L.length
  lo : ∀ j (h : j < L.length), j < p → kl L[j] v m = true
  hi : ∀ j (h : j < L.length), p ≤ j → kl L[j] v m = false
theorem Cut.eq {L : List En} {v m : Int} {p q : Nat} (h : Cut L v m p) (k : Cut L v m q) : p = q := by
  rcases Nat.lt_trichotomy p q with a | a | a
  · have h1 := h.hi p (by have := k.le; omega) (Nat.le_refl _)
    rw [k.lo p (by have := k.le; omega) a] at h1; cases h1
  · exact a
  · have h1 := k.hi q (by have := h.le; omega) (Nat.le_refl _)
    rw [h.lo q (by have := h.le; omega) a] at h1; cases h1
theorem cut_pos : ∀ {L : List En} (hs : Srt L) (v m : Int), Cut L v m (pos L v m)
  | [], _, v, m => ⟨Nat.le_refl _, fun j h => absurd h (Nat.not_lt_zero j), fun j h => absurd h (Nat.not_lt_zero j)⟩
  | e :: L, hs, v, m => by
    have hs' := List.pairwise_cons.1 hs
    have ih := cut_pos hs'.2 v m
    unfold pos
    cases he : kl e v m with
    | true =>
      rw [cond_true]
      refine ⟨by have := ih.le; simp; omega, fun j h hj => ?_, fun j h hj => ?_⟩
      · cases j with
        | zero => exact he
        | succ j => exact ih.lo j (by simpa using h) (by omega)
      · cases j with
        | zero => omega
        | succ j => exact ih.hi j (by simpa using h) (by omega)
    | false =>
      rw [cond_false]
      refine ⟨Nat.zero_le _, fun j h hj => absurd hj (Nat.not_lt_zero j), fun j h hj => ?_⟩
      cases j with
      | zero => exact he
      | succ j =>
        have hb := hs'.1 (L[j]'(by simpa using h)) (List.getElem_mem _)
        show kl (L[j]'(by simpa using h)) v m = false
        rw [kl_ff] at he ⊢
        rw [kl_iff] at hb
        omega
def hasK (L : List En) (v m : Int) : Bool := L.any fun e => ke e v m
theorem hasK_iff {L : List En} {v m : Int} : hasK L v m = true ↔ ∃ e ∈ L, e.vlan = v ∧ e.mac = m := by
  unfold hasK
  rw [List.any_eq_true]
  exact ⟨fun ⟨e, h1, h2⟩ => ⟨e, h1, ke_iff.1 h2⟩, fun ⟨e, h1, h2⟩ => ⟨e, h1, ke_iff.2 h2⟩⟩
theorem hasK_ff {L : List En} {v m : Int} : hasK L v m = false ↔ ∀ e ∈ L, ¬ (e.vlan = v ∧ e.mac = m) := by
  constructor
  · intro h e he hk
    have : hasK L v m = true := hasK_iff.2 ⟨e, he, hk⟩
    rw [h] at this; cases this
  · intro h
    cases hh : hasK L v m with
    | false => rfl
    | true => obtain ⟨e, he, hk⟩ := hasK_iff.1 hh; exact absurd hk (h e he)
/-- a key's place is where it would stand -/
theorem pos_at {L : List En} (hs : Srt L) {v m : Int} {j : Nat} (hj : j < L.length) (hk : L[j].vlan = v ∧ L[j].mac = m) : pos L v m = j := by
  refine (cut_pos hs v m).eq ⟨Nat.le_of_lt hj, fun i h hi => ?_, fun i h hi => ?_⟩
  · have := hs.at hj hi
    rw [hk.1, hk.2] at this
    exact this
  · rcases Nat.lt_or_ge j i with h1 | h1
    · have := hs.at h h1
      rw [kl_iff] at this
      rw [kl_ff]
      omega
    · obtain rfl : i = j := by omega
      rw [kl_ff]; omega
theorem has_pos {L : List En} (hs : Srt L) {v m : Int} (h : hasK L v m = true) : ∃ hp : pos L v m < L.length, L[pos L v m].vlan = v ∧ L[pos L v m].mac = m := by
  obtain ⟨e, he, hk⟩ := hasK_iff.1 h
  obtain ⟨j, hj, rfl⟩ := List.getElem_of_mem he
  have e := pos_at hs hj hk
  rw [e]
  exact ⟨hj, hk⟩
theorem pos_has {L : List En} {v m : Int} {j : Nat} (hj : j < L.length) (hk : L[j].vlan = v ∧ L[j].mac = m) : hasK L v m = true := hasK_iff.2 ⟨_, List.getElem_mem hj, hk⟩
theorem srt_uniq {L : List En} (hs : Srt L) {a b : En} (ha : a ∈ L) (hb : b ∈ L) (h : a.vlan = b.vlan ∧ a.mac = b.mac) : a = b := by
  obtain ⟨i, hi, rfl⟩ := List.getElem_of_mem ha
  obtain ⟨j, hj, rfl⟩ := List.getElem_of_mem hb
  have h1 := pos_at hs hj ⟨rfl, rfl⟩
  have h2 := pos_at hs hi h
  rw [h1] at h2
  subst h2
  rfl
/-! ### the eldest -/
def oldN (L : List En) : Nat → Nat
  | 0 => 0
  | i + 1 => bif decide ((L.getD i enz).seen < (L.getD (oldN L i) enz).seen) then i else oldN L i
theorem oldN_lt (L : List En) : ∀ i, 0 < i → oldN L i < i
  | 0, h => absurd h (Nat.lt_irrefl 0)
  | 1, _ => by
    unfold oldN
    rw [show oldN L 0 = 0 from rfl, decide_eq_false (Int.lt_irrefl _)]
    exact Nat.zero_lt_one
  | i + 2, _ => by
    have := oldN_lt L (i + 1) (by omega)
    show (bif _ then i + 1 else oldN L (i + 1)) < i + 2
    cases decide ((L.getD (i + 1) enz).seen < (L.getD (oldN L (i + 1)) enz).seen)
    · rw [cond_false]; omega
    · rw [cond_true]; omega
theorem oldN_le (L : List En) : ∀ i j, j < i → (L.getD (oldN L i) enz).seen ≤ (L.getD j enz).seen
  | 0, j, h => absurd h (Nat.not_lt_zero j)
  | i + 1, j, h => by
    have ih := oldN_le L i
    unfold oldN
    by_cases hd : (L.getD i enz).seen < (L.getD (oldN L i) enz).seen
    · rw [decide_eq_true hd, cond_true]
      rcases Nat.lt_succ_iff_lt_or_eq.1 h with h1 | rfl
      · have := ih j h1; omega
      · exact Int.le_refl _
    · rw [decide_eq_false hd, cond_false]
      rcases Nat.lt_succ_iff_lt_or_eq.1 h with h1 | rfl
      · exact ih j h1
      · omega
/-! ### an address is learned -/
def putAt (L : List En) (i : Nat) (e : En) : List En := L.take i ++ e :: L.drop i
def learnL (L : List En) (e : En) : List En :=
  bif hasK L e.vlan e.mac then L.set (pos L e.vlan e.mac) e
  else
    bif decide (32 ≤ L.length) then putAt (L.eraseIdx (oldN L L.length)) (pos (L.eraseIdx (oldN L L.length)) e.vlan e.mac) e
    else putAt L (pos L e.vlan e.mac) e
theorem mem_putAt {L : List En} {i : Nat} {e x : En} : x ∈ putAt L i e ↔ x = e ∨ x ∈ L := by
  unfold putAt
  rw [List.mem_append, List.mem_cons]
  constructor
  · rintro (h | h | h)
    · exact .inr (List.mem_of_mem_take h)
    · exact .inl h
    · exact .inr (List.mem_of_mem_drop h)
  · rintro (h | h)
    · exact .inr (.inl h)
    · rw [← List.take_append_drop i L, List.mem_append] at h
      exact h.imp id .inr
theorem length_putAt {L : List En} {i : Nat} {e : En} : (putAt L i e).length = L.length + 1 := by
  unfold putAt
  rw [List.length_append, List.length_cons, List.length_take, List.length_drop]
  omega
theorem srt_putAt {L : List En} (hs : Srt L) {e : En} (hn : hasK L e.vlan e.mac = false) : Srt (putAt L (pos L e.vlan e.mac) e) := by
  have hc := cut_pos hs e.vlan e.mac
  unfold putAt Srt
  rw [List.pairwise_append]
  refine ⟨hs.sublist (List.take_sublist _ _), List.pairwise_cons.2 ⟨fun b hb => ?_, hs.sublist (List.drop_sublist _ _)⟩, fun a ha b hb => ?_⟩
  · obtain ⟨j, hj, rfl⟩ := List.getElem_of_mem hb
    rw [List.getElem_drop]
    have h1 := hc.hi (pos L e.vlan e.mac + j) (by rw [List.length_drop] at hj; omega) (by omega)
    have h2 := hasK_ff.1 hn _ (List.getElem_mem (by rw [List.length_drop] at hj; omega : pos L e.vlan e.mac + j < L.length))
    rw [kl_ff] at h1
    rw [kl_iff]
    omega
  · obtain ⟨i, hi, rfl⟩ := List.getElem_of_mem ha
    rw [List.length_take] at hi
    rw [List.getElem_take]
    have h1 := hc.lo i (by omega) (by omega)
    rcases List.mem_cons.1 hb with rfl | hb
    · exact h1
    · obtain ⟨j, hj, rfl⟩ := List.getElem_of_mem hb
      rw [List.getElem_drop]
      exact hs.at _ (by omega)
theorem srt_set {L : List En} (hs : Srt L) {i : Nat} {e : En} (hi : i < L.length) (hk : L[i].vlan = e.vlan ∧ L[i].mac = e.mac) : Srt (L.set i e) := by
  unfold Srt
  rw [List.pairwise_iff_getElem]
  intro a b ha hb hab
  rw [List.length_set] at ha hb
  have h0 := hs.at hb hab
  rw [List.getElem_set, List.getElem_set]
  by_cases h1 : i = a
  · subst h1
    rw [if_pos rfl, if_neg (by omega)]
    rw [kl_iff] at h0 ⊢
    omega
  · rw [if_neg h1]
    by_cases h2 : i = b
    · subst h2
      rw [if_pos rfl]
      rw [kl_iff] at h0 ⊢
      omega
    · rw [if_neg h2]; exact h0
theorem has_erase {L : List En} {v m : Int} {i : Nat} (h : hasK L v m = false) : hasK (L.eraseIdx i) v m = false := hasK_ff.2 fun e he => hasK_ff.1 h e (List.mem_of_mem_eraseIdx he)
theorem srt_learn {L : List En} (hs : Srt L) (e : En) : Srt (learnL L e) := by
  unfold learnL
  cases hh : hasK L e.vlan e.mac with
  | true =>
    rw [cond_true]
    obtain ⟨hp, hk⟩ := has_pos hs hh
    exact srt_set hs hp hk
  | false =>
    rw [cond_false]
    cases decide (32 ≤ L.length) with
    | true => rw [cond_true]; exact srt_putAt (hs.sublist (List.eraseIdx_sublist _ _)) (has_erase hh)
    | false => rw [cond_false]; exact srt_putAt hs hh
theorem length_learn {L : List En} (h : L.length ≤ 32) (e : En) : (learnL L e).length ≤ 32 := by
  unfold learnL
  cases hasK L e.vlan e.mac with
  | true => rw [cond_true, List.length_set]; exact h
  | false =>
    rw [cond_false]
    by_cases hd : 32 ≤ L.length
    · rw [decide_eq_true hd, cond_true, length_putAt, List.length_eraseIdx, if_pos (oldN_lt L _ (by omega))]
      omega
    · rw [decide_eq_false hd, cond_false, length_putAt]
      omega
theorem mem_learn_self (L : List En) (hs : Srt L) (e : En) : e ∈ learnL L e := by
  unfold learnL
  cases hh : hasK L e.vlan e.mac with
  | true =>
    rw [cond_true]
    obtain ⟨hp, hk⟩ := has_pos hs hh
    exact List.mem_of_getElem (i := pos L e.vlan e.mac) (h := by rw [List.length_set]; exact hp) (by rw [List.getElem_set_self])
  | false =>
    rw [cond_false]
    cases decide (32 ≤ L.length) with
    | true => rw [cond_true]; exact mem_putAt.2 (.inl rfl)
    | false => rw [cond_false]; exact mem_putAt.2 (.inl rfl)
theorem mem_learn {L : List En} {e x : En} (h : x ∈ learnL L e) : x = e ∨ x ∈ L := by
  unfold learnL at h
  cases hh : hasK L e.vlan e.mac with
  | true =>
    rw [hh, cond_true] at h
    exact (List.mem_or_eq_of_mem_set h).symm
  | false =>
    rw [hh, cond_false] at h
    cases hd : decide (32 ≤ L.length) with
    | true => rw [hd, cond_true] at h; exact (mem_putAt.1 h).imp id fun h => List.mem_of_mem_eraseIdx h
    | false => rw [hd, cond_false] at h; exact mem_putAt.1 h
/-- what was there stays, but for what had the key, or was the eldest of a full table -/
theorem mem_learn_old {L : List En} (hs : Srt L) {e x : En} (hx : x ∈ L) (hk : ¬ (x.vlan = e.vlan ∧ x.mac = e.mac)) :
    x ∈ learnL L e ∨ (hasK L e.vlan e.mac = false ∧ 32 ≤ L.length ∧ ∀ y ∈ L, x.seen ≤ y.seen) := by
  obtain ⟨j, hj, rfl⟩ := List.getElem_of_mem hx
  unfold learnL
  cases hh : hasK L e.vlan e.mac with
  | true =>
    left
    rw [cond_true]
    obtain ⟨hp, hk2⟩ := has_pos hs hh
    have hne : pos L e.vlan e.mac ≠ j := fun h => by subst h; exact hk hk2
    exact List.mem_of_getElem (i := j) (h := by rw [List.length_set]; exact hj) (by rw [List.getElem_set_ne hne])
  | false =>
    rw [cond_false]
    by_cases hd : 32 ≤ L.length
    · rw [decide_eq_true hd, cond_true]
      by_cases ho : j = oldN L L.length
      · right
        refine ⟨rfl, hd, fun y hy => ?_⟩
        obtain ⟨i, hi, rfl⟩ := List.getElem_of_mem hy
        have := oldN_le L L.length i hi
        rw [← ho, List.getD_eq_getElem?_getD, List.getElem?_eq_getElem hj, List.getD_eq_getElem?_getD, List.getElem?_eq_getElem hi] at this
        exact this
      · left
        refine mem_putAt.2 (.inr ?_)
        rw [List.mem_eraseIdx_iff_getElem]
        exact ⟨j, hj, ho, rfl⟩
    · rw [decide_eq_false hd, cond_false]
      exact .inl (mem_putAt.2 (.inr hx))
/-- what has the key behind it is the new one -/
theorem learn_key {L : List En} (hs : Srt L) {e x : En} (hx : x ∈ learnL L e) (hk : x.vlan = e.vlan ∧ x.mac = e.mac) : x = e := srt_uniq (srt_learn hs e) hx (mem_learn_self L hs e) hk
/-! ### found, aged, let go -/
def findL (L : List En) (v m : Int) : Option En := L.find? fun e => ke e v m
theorem findL_some {L : List En} (hs : Srt L) {e : En} {v m : Int} : findL L v m = some e ↔ e ∈ L ∧ e.vlan = v ∧ e.mac = m := by
  constructor
  · intro h
    unfold findL at h
    exact ⟨List.mem_of_find?_eq_some h, ke_iff.1 (List.find?_some (p := fun e => ke e v m) h)⟩
  · rintro ⟨h, hk⟩
    unfold findL
    cases hf : L.find? (fun e => ke e v m) with
    | none => exact absurd (ke_iff.2 hk) (by simpa using List.find?_eq_none.1 hf e h)
    | some y =>
      have h2 := List.mem_of_find?_eq_some hf
      have h3 := ke_iff.1 (List.find?_some (p := fun e => ke e v m) hf)
      rw [srt_uniq hs h h2 ⟨hk.1.trans h3.1.symm, hk.2.trans h3.2.symm⟩]
theorem findL_none {L : List En} {v m : Int} : findL L v m = none ↔ hasK L v m = false := by
  unfold findL
  rw [List.find?_eq_none, hasK_ff]
  exact ⟨fun h e he hk => by simpa [ke_iff.2 hk] using h e he, fun h e he hk => h e he (ke_iff.1 hk)⟩
theorem findL_pos {L : List En} (hs : Srt L) {v m : Int} (hp : pos L v m < L.length) (hk : L[pos L v m].vlan = v ∧ L[pos L v m].mac = m) : findL L v m = some L[pos L v m] := (findL_some hs).2 ⟨List.getElem_mem hp, hk⟩
def ageL (c : Int) (L : List En) : List En := L.filter fun e => decide (c - e.seen < 300)
def flushL (F : Int → Bool) (L : List En) : List En := L.filter fun e => !F e.port
theorem Srt.filter {L : List En} (h : Srt L) (p : En → Bool) : Srt (L.filter p) := List.Pairwise.filter p h
/-- a table that is as it ought to be at a time -/
structure TabOk (c : Int) (L : List En) : Prop where
  s : Srt L
  n : L.length ≤ 32
  c0 : 0 ≤ c
  c1 : c ≤ 1073741824
  t : ∀ e ∈ L, 0 ≤ e.seen ∧ e.seen ≤ c
theorem TabOk.nil : TabOk 0 [] := ⟨List.Pairwise.nil, Nat.zero_le _, Int.le_refl _, by decide, fun e h => absurd h List.not_mem_nil⟩
theorem TabOk.learn {c : Int} {L : List En} (h : TabOk c L) {e : En} (he : e.seen = c) : TabOk c (learnL L e) :=
  ⟨srt_learn h.s e, length_learn h.n e, h.c0, h.c1, fun x hx => by
    rcases mem_learn hx with rfl | hx
    · rw [he]; exact ⟨h.c0, Int.le_refl _⟩
    · exact h.t x hx⟩
theorem TabOk.filter {c : Int} {L : List En} (h : TabOk c L) (p : En → Bool) : TabOk c (L.filter p) :=
  ⟨h.s.filter p, Nat.le_trans (List.length_filter_le _ _) h.n, h.c0, h.c1, fun x hx => h.t x (List.mem_filter.1 hx).1⟩
theorem TabOk.up {c : Int} {L : List En} (h : TabOk c L) (hc : c < 1073741824) : TabOk (c + 1) L :=
  ⟨h.s, h.n, by have := h.c0; omega, by omega, fun x hx => by have := h.t x hx; omega⟩
end Go.Ve

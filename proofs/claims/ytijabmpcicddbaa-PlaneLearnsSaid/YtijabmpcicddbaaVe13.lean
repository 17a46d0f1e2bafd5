/- The evaluator ("VE"): tables; renumbering. -/
import Derived.Test.YtijabmpcicddbaaVe12
set_option linter.unusedVariables false
set_option linter.unusedSimpArgs false
namespace Go.Ve

/-! ### tables -/
theorem beq_false {x y : Nat} (h : x ≠ y) : Nat.beq x y = false := by
  cases hb : Nat.beq x y with
  | false => rfl
  | true => exact absurd (Nat.eq_of_beq_eq_true hb) h
theorem aget_aput {α : Type} (l : List (Nat × α)) (x y : Nat) (v : α) : aget (aput l x v) y = if y = x then some v else aget l y := by
  induction l with
  | nil =>
    simp only [aput, aget]
    by_cases h : y = x
    · subst h; rw [Nat.beq_refl, if_pos rfl]; rfl
    · rw [beq_false h, if_neg h]; rfl
  | cons p r ih =>
    obtain ⟨z, u⟩ := p
    simp only [aput]
    by_cases hx : x = z
    · subst hx
      rw [Nat.beq_refl, cond_true]
      simp only [aget]
      by_cases h : y = x
      · subst h; rw [Nat.beq_refl, if_pos rfl]; rfl
      · rw [beq_false h, if_neg h]; rfl
    · rw [beq_false hx, cond_false]
      simp only [aget]
      by_cases h : y = z
      · subst h; rw [Nat.beq_refl, if_neg (fun e => hx e.symm)]; rfl
      · rw [beq_false h]; exact ih
def foldA {α : Type} (H : Nat → Option α) (w : List (Nat × α)) : Nat → Option α := w.foldl (fun H p => fun y => if y = p.1 then some p.2 else H y) H
theorem foldA_cons {α : Type} (H : Nat → Option α) (x : Nat) (v : α) (r : List (Nat × α)) : foldA H ((x, v) :: r) = foldA (fun y => if y = x then some v else H y) r := rfl
theorem aget_aputs {α : Type} (w : List (Nat × α)) : ∀ (l : List (Nat × α)) (y : Nat), aget (aputs l w) y = foldA (aget l) w y := by
  induction w with
  | nil => intro l y; rfl
  | cons p r ih =>
    intro l y
    obtain ⟨x, v⟩ := p
    rw [aputs, ih, foldA_cons]
    congr 1
    funext z
    exact aget_aput l x z v
theorem mem_keys {α : Type} {w : List (Nat × α)} {y : Nat} : y ∈ keysOf w ↔ ∃ p, p ∈ w ∧ p.1 = y := by
  induction w with
  | nil => simp [keysOf]
  | cons p r ih =>
    obtain ⟨x, v⟩ := p
    simp only [keysOf, List.mem_cons, ih]
    constructor
    · rintro (rfl | ⟨p, hp, rfl⟩)
      · exact ⟨_, .inl rfl, rfl⟩
      · exact ⟨p, .inr hp, rfl⟩
    · rintro ⟨p, rfl | hp, rfl⟩
      · exact .inl rfl
      · exact .inr ⟨p, hp, rfl⟩
theorem foldA_out {α : Type} (w : List (Nat × α)) : ∀ (H : Nat → Option α) (y : Nat), y ∉ keysOf w → foldA H w y = H y := by
  induction w with
  | nil => intro H y _; rfl
  | cons p r ih =>
    intro H y hy
    obtain ⟨x, v⟩ := p
    simp only [keysOf, List.mem_cons, not_or] at hy
    rw [foldA_cons, ih _ _ hy.2, if_neg hy.1]
theorem foldA_in {α : Type} (w : List (Nat × α)) : ∀ (H H' : Nat → Option α) (y : Nat), y ∈ keysOf w → foldA H w y = foldA H' w y := by
  induction w with
  | nil => intro H H' y hy; simp [keysOf] at hy
  | cons p r ih =>
    intro H H' y hy
    obtain ⟨x, v⟩ := p
    by_cases hr : y ∈ keysOf r
    · rw [foldA_cons, foldA_cons]
      exact ih _ _ y hr
    · simp only [keysOf, List.mem_cons] at hy
      rw [foldA_cons, foldA_cons, foldA_out _ _ _ hr, foldA_out _ _ _ hr]
      rcases hy with rfl | hy
      · simp
      · exact absurd hy hr
theorem foldA_same {α : Type} (w : List (Nat × α)) (H H' : Nat → Option α) (y : Nat) (h : H y = H' y) : foldA H w y = foldA H' w y := by
  by_cases hy : y ∈ keysOf w
  · exact foldA_in w H H' y hy
  · rw [foldA_out _ _ _ hy, foldA_out _ _ _ hy, h]
theorem foldA_append {α : Type} (w w' : List (Nat × α)) (H : Nat → Option α) : foldA H (w ++ w') = foldA (foldA H w) w' := by
  unfold foldA
  rw [List.foldl_append]
theorem keys_append {α : Type} (w w' : List (Nat × α)) : keysOf (w ++ w') = keysOf w ++ keysOf w' := by
  induction w with
  | nil => rfl
  | cons p r ih => obtain ⟨x, v⟩ := p; simp [keysOf, ih]
theorem mem_keys_number {α : Type} (l : List α) : ∀ (n y : Nat), y ∈ keysOf (number n l) ↔ n ≤ y ∧ y < n + l.length := by
  induction l with
  | nil => intro n y; simp [number, keysOf]
  | cons x r ih =>
    intro n y
    simp only [number, keysOf, List.mem_cons, ih, List.length_cons]
    omega
theorem foldA_number {α : Type} (l : List α) : ∀ (H : Nat → Option α) (n y : Nat), foldA H (number n l) y = if n ≤ y ∧ y < n + l.length then l[y - n]? else H y := by
  induction l with
  | nil =>
    intro H n y
    simp only [List.length_nil, Nat.add_zero]
    rw [if_neg (by omega)]
    rfl
  | cons x r ih =>
    intro H n y
    rw [number, foldA_cons, ih]
    simp only [List.length_cons]
    by_cases h1 : y = n
    · subst h1
      rw [if_neg (by omega), if_pos rfl, if_pos (by omega), Nat.sub_self]
      rfl
    · by_cases h2 : n + 1 ≤ y ∧ y < n + 1 + r.length
      · rw [if_pos h2, if_pos (by omega), show y - n = (y - (n + 1)) + 1 by omega]
        rfl
      · rw [if_neg h2, if_neg h1, if_neg (by omega)]
theorem aget_number {α : Type} (l : List α) : ∀ (n y : Nat), aget (number n l) y = if n ≤ y then l[y - n]? else none := by
  induction l with
  | nil => intro n y; simp [number, aget]
  | cons x r ih =>
    intro n y
    rw [number, aget, ih]
    by_cases h1 : y = n
    · subst h1; rw [Nat.beq_refl, if_pos (Nat.le_refl _), Nat.sub_self]; rfl
    · rw [beq_false h1, cond_false]
      by_cases h2 : n + 1 ≤ y
      · rw [if_pos h2, if_pos (by omega), show y - n = (y - (n + 1)) + 1 by omega]; rfl
      · rw [if_neg h2, if_neg (by omega)]
theorem updH_all (H : Heap) (u : Upd) (nx : Nat) : updH H u nx = foldA H (u.all nx) := by
  funext y
  rw [Upd.all, foldA_append, foldA_number, updH_eq]
  rfl
theorem allLt_spec {n : Nat} : ∀ {l : List Nat}, allLt n l = true → ∀ x, x ∈ l → x < n
  | [], _, x, hx => by simp at hx
  | y :: l, h, x, hx => by
    simp only [allLt, Bool.and_eq_true] at h
    rcases List.mem_cons.1 hx with rfl | hx
    · exact Nat.le_of_ble_eq_true h.1
    · exact allLt_spec h.2 x hx

/-! ### lists of numbers -/
theorem has_iff {l : List Nat} {x : Nat} : has l x = true ↔ x ∈ l := by
  induction l with
  | nil => simp [has]
  | cons y r ih =>
    simp only [has, List.mem_cons]
    by_cases h : x = y
    · subst h; simp [Nat.beq_refl]
    · rw [beq_false h, cond_false, ih]; simp [h]
theorem has_false {l : List Nat} {x : Nat} (h : has l x = false) : x ∉ l := fun hx => by rw [has_iff.2 hx] at h; cases h
theorem idx_some {l : List Nat} {x j : Nat} (h : idx l x = some j) : l[j]? = some x := by
  induction l generalizing j with
  | nil => cases h
  | cons y r ih =>
    simp only [idx] at h
    by_cases hx : x = y
    · subst hx
      rw [Nat.beq_refl, cond_true] at h
      injection h with h
      subst h
      rfl
    · rw [beq_false hx, cond_false] at h
      obtain ⟨i, hi, rfl⟩ := Option.map_eq_some_iff.1 h
      exact ih hi
theorem idx_of {l : List Nat} (hn : l.Nodup) {x j : Nat} (h : l[j]? = some x) : idx l x = some j := by
  induction l generalizing j with
  | nil => simp at h
  | cons y r ih =>
    rw [List.nodup_cons] at hn
    simp only [idx]
    cases j with
    | zero => simp at h; subst h; rw [Nat.beq_refl]; rfl
    | succ j =>
      have hxr : r[j]? = some x := by simpa using h
      have hne : x ≠ y := fun e => hn.1 (e ▸ List.mem_of_getElem? hxr)
      rw [beq_false hne, cond_false, ih hn.2 hxr]
      rfl
theorem objsAt_get (h : List (Nat × AObj)) (ρ : Nat → Option Nat) (l : List Nat) (j : Nat) : (objsAt h ρ l)[j]? = (l[j]?).map fun x => renObj ρ ((aget h x).getD .dead) := by
  induction l generalizing j with
  | nil => simp [objsAt]
  | cons x r ih =>
    cases j with
    | zero => simp [objsAt]
    | succ j => simpa [objsAt] using ih j
theorem objsAt_length (h : List (Nat × AObj)) (ρ : Nat → Option Nat) (l : List Nat) : (objsAt h ρ l).length = l.length := by
  induction l with
  | nil => rfl
  | cons x r ih => simp [objsAt, ih]
theorem mem_iota {n x : Nat} : ∀ {i : Nat}, x ∈ iota i n ↔ i ≤ x ∧ x < i + n := by
  induction n with
  | zero => intro i; simp [iota]
  | succ n ih => intro i; simp only [iota, List.mem_cons, ih]; omega
theorem iota_get {n : Nat} : ∀ {i j : Nat}, j < n → (iota i n)[j]? = some (i + j) := by
  induction n with
  | zero => intro i j h; omega
  | succ n ih =>
    intro i j h
    cases j with
    | zero => simp [iota]
    | succ j => simp only [iota, List.getElem?_cons_succ]; rw [ih (by omega)]; congr 1; omega
theorem iota_length (i n : Nat) : (iota i n).length = n := by
  induction n generalizing i with
  | zero => rfl
  | succ n ih => simp [iota, ih]
theorem iota_nodup {n : Nat} : ∀ {i : Nat}, (iota i n).Nodup := by
  induction n with
  | zero => intro i; exact List.nodup_nil
  | succ n ih => intro i; rw [iota, List.nodup_cons]; exact ⟨fun h => by have := (mem_iota.1 h).1; omega, ih⟩
theorem reach_spec {h : List (Nat × AObj)} : ∀ {n : Nat} {xs acc ps : List Nat}, reach h n xs acc = some ps → acc.Nodup → ps.Nodup ∧ (∃ r, ps = acc ++ r ∧ ∀ x, x ∈ r → ∃ o, aget h x = some o)
  | 0, _, _, _, hr, _ => by simp [reach] at hr
  | n + 1, [], acc, ps, hr, hn => by simp [reach] at hr; subst hr; exact ⟨hn, [], by simp, fun x hx => by simp at hx⟩
  | n + 1, x :: xs, acc, ps, hr, hn => by
    simp only [reach] at hr
    cases hh : has acc x with
    | true => simp only [hh, cond_true] at hr; exact reach_spec hr hn
    | false =>
      simp only [hh, cond_false] at hr
      split at hr
      · exact reach_spec hr hn
      · exact reach_spec hr hn
      · rename_i o ho1 ho2
        obtain ⟨h1, r, h2, h3⟩ := reach_spec hr (by
          rw [List.nodup_append]
          refine ⟨hn, by simp, fun y hy z hz => ?_⟩
          simp at hz
          subst hz
          exact fun e => has_false hh (e ▸ hy))
        refine ⟨h1, x :: r, by rw [h2]; simp, fun y hy => ?_⟩
        rcases List.mem_cons.1 hy with rfl | hy
        · exact ⟨o, ho2⟩
        · exact h3 y hy

/-! ### renumbering -/
theorem renObj_live (ρ : Nat → Option Nat) (o : AObj) : live (renObj ρ o) = live o := by cases o <;> rfl
theorem renObj_rw (ρ : Nat → Option Nat) (o : AObj) : rw (renObj ρ o) = rw o := by
  cases o with
  | dead => rfl
  | cells ro l => cases ro <;> rfl
  | parr ro nl k e n f => cases ro <;> cases nl <;> rfl
  | mapo => rfl
theorem renObj_blkd (ρ : Nat → Option Nat) (o : AObj) : blkd (renObj ρ o) = blkd o := by cases o <;> rfl
theorem RL.mono_mem {α β : Type} {R R' : α → β → Prop} {l : List α} {r : List β} (h : RL R l r) (hm : ∀ a, a ∈ l → ∀ b, R a b → R' a b) : RL R' l r := by
  induction h with
  | nil => exact .nil
  | cons h1 _ ih => exact .cons (hm _ (by simp) _ h1) (ih fun a ha => hm a (by simp [ha]))
structure Ren (E E' : Env) (ρ : Nat → Option Nat) : Prop where
  w : E'.w = E.w
  S : ∀ b, E.S b → E'.S b
  o : ∀ id j o, ρ id = some j → E.H id = some o → E'.H j = some (renObj ρ o) ∧ E'.ι j = E.ι id

theorem Ren.blk {E E' : Env} {ρ : Nat → Option Nat} (r : Ren E E' ρ) {id j : Nat} (hj : E'.ι j = E.ι id) {cs : Array Value} (h : E.blk id cs) : E'.blk j cs := by
  obtain ⟨T, fr, h, k⟩ := h
  exact ⟨T, fr, by rw [hj, r.w, h], k⟩
theorem mapM_caps {ρ : Nat → Option Nat} : ∀ {l cs : List (Nat × Nat)}, l.mapM (fun (p : Nat × Nat) => (ρ p.1).map fun j => (j, p.2)) = some cs → RL (fun p q => ρ p.1 = some q.1 ∧ p.2 = q.2) l cs
  | [], cs, h => by simp at h; subst h; exact .nil
  | p :: l, cs, h => by
    rw [List.mapM_cons] at h
    cases h1 : ρ p.1 with
    | none => simp [h1] at h
    | some j =>
      simp only [h1, Option.map_some, Option.bind_eq_bind, Option.bind_some] at h
      obtain ⟨r, hr, e⟩ := Option.bind_eq_some_iff.1 h
      injection e with e
      subst e
      exact .cons ⟨h1, rfl⟩ (mapM_caps hr)
theorem OwnV.ren {E E' : Env} {ρ : Nat → Option Nat} (r : Ren E E' ρ) {id j : Nat} {nl : Bool} {esz n m : Nat} {x : Value} (hj : E'.ι j = E.ι id) (h : OwnV E id nl esz n m x) : OwnV E' j nl esz n m x := by
  refine ⟨h.1, ?_⟩
  rcases h.2 with hh | ⟨rfl, cap, cs, e1, e2, e3, e4⟩
  · exact .inl hh
  · exact .inr ⟨rfl, cap, cs, by rw [hj, e1], e2, r.blk hj e3, e4⟩
theorem RC.ren {E E' : Env} {ρ : Nat → Option Nat} (r : Ren E E' ρ) {x : CV} {v : Value} (h : RC E x v) : RC E' (renCV ρ x) v := by
  have hone := RC.one h
  cases x with
  | pv p => exact RP.mono r.S (fun b _ => by rw [r.w]) h
  | dead => exact h
  | mp id =>
    simp only [renCV]
    cases hρ : ρ id with
    | none => exact hone
    | some j =>
      simp only [RC] at h ⊢
      cases ho : E.H id with
      | none => simp [ho] at h
      | some o =>
        obtain ⟨h1, h2⟩ := r.o id j o hρ ho
        cases o <;> simp only [ho] at h <;> simp only [h1, renObj, h2] <;> exact h
  | pel e g off =>
    obtain ⟨b, p, e, hb, hc⟩ := h
    exact ⟨b, p, e, r.S b hb, fun c hcc => let ⟨y, hy, hr⟩ := hc c hcc; ⟨y, by rw [r.w]; exact hy, RP.mono r.S (fun b _ => by rw [r.w]) hr⟩⟩
  | ptr id off =>
    simp only [renCV]
    cases hρ : ρ id with
    | none => exact hone
    | some j =>
      simp only [RC] at h ⊢
      cases ho : E.H id with
      | none => simp [ho] at h
      | some o =>
        obtain ⟨h1, h2⟩ := r.o id j o hρ ho
        cases o <;> simp [ho] at h
        simp only [h1, renObj, h2]
        exact h
  | ept id i off =>
    simp only [renCV]
    cases hρ : ρ id with
    | none => exact hone
    | some j =>
      simp only [RC] at h ⊢
      cases ho : E.H id with
      | none => simp [ho] at h
      | some o =>
        obtain ⟨h1, h2⟩ := r.o id j o hρ ho
        cases o <;> simp only [ho] at h <;> simp only [h1, renObj, h2] <;> exact h
  | own id =>
    simp only [renCV]
    cases hρ : ρ id with
    | none => exact hone
    | some j =>
      simp only [RC] at h ⊢
      cases ho : E.H id with
      | none => simp [ho] at h
      | some o =>
        obtain ⟨h1, h2⟩ := r.o id j o hρ ho
        cases o with
        | cells => simp [ho] at h
        | dead => simp only [ho] at h; simp only [h1, renObj]; exact h
        | mapo => simp [ho] at h
        | parr ro nl k e n f =>
          simp only [ho] at h
          simp only [h1, renObj]
          exact OwnV.ren r h2 h
  | pre id m =>
    simp only [renCV]
    cases hρ : ρ id with
    | none => exact hone
    | some j =>
      simp only [RC] at h ⊢
      cases ho : E.H id with
      | none => simp [ho] at h
      | some o =>
        obtain ⟨h1, h2⟩ := r.o id j o hρ ho
        cases o with
        | cells => simp [ho] at h
        | dead => simp only [ho] at h; simp only [h1, renObj]; exact h
        | mapo => simp [ho] at h
        | parr ro nl k e n f =>
          simp only [ho] at h
          simp only [h1, renObj]
          exact OwnV.ren r h2 h
  | sub id lo m =>
    simp only [renCV]
    cases hρ : ρ id with
    | none => exact hone
    | some j =>
      simp only [RC] at h ⊢
      cases ho : E.H id with
      | none => simp [ho] at h
      | some o =>
        obtain ⟨h1, h2⟩ := r.o id j o hρ ho
        cases o <;> simp only [ho] at h <;> simp only [h1, renObj, h2] <;> exact h
  | csl id b m e =>
    simp only [renCV]
    cases hρ : ρ id with
    | none => exact hone
    | some j =>
      simp only [RC] at h ⊢
      cases ho : E.H id with
      | none => simp [ho] at h
      | some o =>
        obtain ⟨h1, h2⟩ := r.o id j o hρ ho
        cases o <;> simp only [ho] at h
        simp only [h1, renObj, h2, List.length_map]
        exact h
  | clo f caps =>
    simp only [renCV]
    obtain ⟨e1, hc⟩ := h
    split
    · rename_i cs hcs
      have hl := mapM_caps hcs
      have key : ∀ {l cs : List (Nat × Nat)}, RL (fun (p q : Nat × Nat) => ρ p.1 = some q.1 ∧ p.2 = q.2) l cs → (∀ p, p ∈ l → ∃ ro l, E.H p.1 = some (.cells ro l)) →
          (l.map fun p => Value.pointer (some ⟨E.ι p.1, p.2, none⟩)) = (cs.map fun p => Value.pointer (some ⟨E'.ι p.1, p.2, none⟩)) ∧ ∀ p, p ∈ cs → ∃ ro l, E'.H p.1 = some (.cells ro l) := by
        intro l cs hl
        induction hl with
        | nil => intro _; exact ⟨rfl, fun p hp => by simp at hp⟩
        | cons ha _ ih =>
          rename_i p q l cs _
          intro hc
          obtain ⟨i1, i2⟩ := ih fun p hp => hc p (by simp [hp])
          obtain ⟨ro, ll, ho⟩ := hc p (by simp)
          obtain ⟨h1, h2⟩ := r.o _ _ _ ha.1 ho
          refine ⟨by simp only [List.map_cons, i1, ha.2, h2], fun x hx => ?_⟩
          rcases List.mem_cons.1 hx with rfl | hx
          · exact ⟨ro, _, h1⟩
          · exact i2 x hx
      obtain ⟨k1, k2⟩ := key hl hc
      exact ⟨by rw [e1, k1], k2⟩
    · exact hone
theorem RV.ren {E E' : Env} {ρ : Nat → Option Nat} (r : Ren E E' ρ) {x : VV} {v : Value} (h : RV E x v) : RV E' (renVV ρ x) v := by
  cases x with
  | c x => exact RC.ren r h
  | agg l => obtain ⟨cs, e, hl⟩ := h; exact ⟨cs, e, by simpa using hl.map (R' := RC E') (g := _root_.id) fun _ _ => RC.ren r⟩
theorem RA.ren {E E' : Env} {ρ : Nat → Option Nat} (r : Ren E E' ρ) {x : AV} {v : Value} (h : RA E x v) : RA E' (renAV ρ x) v := by
  cases x with
  | v x => exact RV.ren r h
  | tup l => obtain ⟨cs, e, hl⟩ := h; exact ⟨cs, e, by simpa using hl.map (R' := RV E') (g := _root_.id) fun _ _ => RV.ren r⟩
theorem RO.ren {E E' : Env} {ρ : Nat → Option Nat} (r : Ren E E' ρ) {id j : Nat} {o : AObj} (hj : E'.ι j = E.ι id) (h : RO E id o) : RO E' j (renObj ρ o) := by
  cases o with
  | dead => trivial
  | cells ro l =>
    obtain ⟨cs, hb, hl, hS⟩ := h
    exact ⟨cs, r.blk hj hb, by simpa using hl.map (R' := RC E') (g := _root_.id) fun _ _ => RC.ren r, fun e => by rw [hj]; exact r.S _ (hS e)⟩
  | parr ro nl k e n f =>
    refine ⟨h.1, ?_⟩
    rcases h.2 with hh | ⟨hnl, cs, hb, h1, h3, hS⟩
    · exact .inl hh
    · exact .inr ⟨hnl, cs, r.blk hj hb, h1, fun j hj c hc => let ⟨y, hy, hr⟩ := h3 j hj c hc; ⟨y, hy, RP.mono r.S (fun b _ => by rw [r.w]) hr⟩, fun e => by rw [hj]; exact r.S _ (hS e)⟩
  | mapo =>
    obtain ⟨es, cl, hb, hl, hst⟩ := h
    have hre : ∀ {a : Bool} {l : List PV} {x : Value}, RE E a l x → RE E' a l x := by
      intro a l x hx
      cases a with
      | true => obtain ⟨cs, e, hr⟩ := hx; exact ⟨cs, e, hr.mono_mem fun p hp y hr => by obtain ⟨q, _, rfl⟩ := List.mem_map.1 hp; exact RP.mono r.S (fun b _ => by rw [r.w]) hr⟩
      | false => obtain ⟨p, e, hr⟩ := hx; exact ⟨p, e, RP.mono r.S (fun b _ => by rw [r.w]) hr⟩
    exact ⟨es, cl, by rw [hj, r.w]; exact hb, hl.mono fun p e ⟨m1, m2, m3, m4, m5⟩ => ⟨m1, m2, m3, hre m4, hre m5⟩, hst⟩
end Go.Ve

/- The evaluator ("VE"): code; functions; the program. -/
import Derived.Test.YtijabmpcicddbaaVe17
set_option linter.unusedVariables false
set_option linter.unusedSimpArgs false
namespace Go.Ve

/-! ### what is reached, numbered anew -/
theorem shrink_env {E : Env} {h : List (Nat × AObj)} {acc : List Nat} (hE : E.ok) (hH : ∀ id, E.H id = aget h id) (hnd : acc.Nodup) :
    ∃ E' : Env, E'.ok ∧ (∀ id, E'.H id = (objsAt h (idx acc) acc)[id]?) ∧ Ren E E' (idx acc) ∧ E'.w = E.w ∧ ∀ (m : Nat) (r : List Nat), acc = iota 0 m ++ r → EvM m E E' := by
  let E' : Env := ⟨fun j => match acc[j]? with | some p => E.ι p | none => 0, fun id => (objsAt h (idx acc) acc)[id]?, E.D, E.w⟩
  have hget : ∀ (j p : Nat), acc[j]? = some p → E'.ι j = E.ι p ∧ ∀ o, E.H p = some o → E'.H j = some (renObj (idx acc) o) := by
    intro j p hp
    refine ⟨by show (match acc[j]? with | some p => E.ι p | none => 0) = _; rw [hp], fun o ho => ?_⟩
    show (objsAt h (idx acc) acc)[j]? = _
    rw [objsAt_get, hp]
    rw [hH] at ho
    simp [ho]
  have hinv : ∀ j o', E'.H j = some o' → live o' = true → ∃ p o, acc[j]? = some p ∧ E.H p = some o ∧ o' = renObj (idx acc) o := by
    intro j o' ho hl
    have ho : (objsAt h (idx acc) acc)[j]? = some o' := ho
    rw [objsAt_get] at ho
    obtain ⟨p, hp, e⟩ := Option.map_eq_some_iff.1 ho
    cases hpo : aget h p with
    | none => rw [hpo] at e; subst e; simp [renObj, live] at hl
    | some o => exact ⟨p, o, hp, by rw [hH, hpo], by rw [← e, hpo]; rfl⟩
  have hS : ∀ b, E.S b → E'.S b := by
    intro b ⟨h1, h2, h3⟩
    refine ⟨h1, h2, fun j o' ho hr => ?_⟩
    obtain ⟨p, o, k1, k2, rfl⟩ := hinv j o' ho (rw_live hr)
    rw [(hget j p k1).1]
    exact h3 p o k2 (by rw [← renObj_rw (idx acc)]; exact hr)
  have hren : Ren E E' (idx acc) := ⟨rfl, hS, fun id j o hj ho => by
    have := idx_some hj
    exact ⟨(hget j id this).2 o ho, (hget j id this).1⟩⟩
  refine ⟨E', { obj := ?_, inj := ?_, out := ?_, dom := hE.dom, gl := hE.gl.mono hS fun _ _ => rfl }, fun _ => rfl, hren, rfl, fun m r hm => ?_⟩
  · intro j o' ho
    cases hl : live o' with
    | false => cases o' <;> simp_all [live, RO]
    | true =>
      obtain ⟨p, o, k1, k2, rfl⟩ := hinv j o' ho hl
      exact RO.ren hren (hget j p k1).1 (hE.obj p o k2)
  · intro i j oi oj hi hj hri hlj hij
    obtain ⟨p, o, k1, k2, rfl⟩ := hinv i oi hi (rw_live hri)
    obtain ⟨q, o2, l1, l2, rfl⟩ := hinv j oj hj (blkd_live hlj)
    rw [(hget i p k1).1, (hget j q l1).1]
    refine hE.inj p q o o2 k2 l2 (by rw [← renObj_rw (idx acc)]; exact hri) (by rw [← renObj_blkd (idx acc)]; exact hlj) fun e => ?_
    subst e
    have := idx_of hnd k1
    rw [idx_of hnd l1] at this
    injection this with this
    exact hij this.symm
  · intro j o' ho hr
    obtain ⟨p, o, k1, k2, rfl⟩ := hinv j o' ho (rw_live hr)
    rw [renObj_rw] at hr
    rw [(hget j p k1).1]
    exact hE.out p o k2 hr
  · have hat : ∀ id, id < m → acc[id]? = some id := by
      intro id hid
      rw [hm, List.getElem?_append_left (by rw [iota_length]; exact hid), iota_get hid]
      simp
    exact { s := hS, c := fun _ _ => rfl, D := rfl, dom := fun _ _ => rfl, os := rfl, tape := rfl, output := rfl, size := Nat.le_refl _
            i := fun id hid o ho => (hget id id (hat id hid)).1
            h := fun id hid o ho => ⟨_, (hget id id (hat id hid)).2 o ho, by cases o <;> simp [shape, renObj], fun ⟨ro, l, e⟩ => by subst e; rfl⟩
            z := fun id hid o o' cs ho ho' hl hb => ⟨cs, by
              obtain ⟨T, fr, k1, k2⟩ := hb
              exact ⟨T, fr, by rw [(hget id id (hat id hid)).1]; exact k1, k2⟩, rfl⟩ }

theorem aget_map {l : List (Nat × AV)} {f : AV → AV} (x : Nat) : aget (l.map fun p => (p.1, f p.2)) x = (aget l x).map f := by
  induction l with
  | nil => rfl
  | cons p r ih =>
    obtain ⟨y, v⟩ := p
    simp only [List.map_cons, aget]
    by_cases h : x = y
    · subst h; simp [Nat.beq_refl]
    · rw [beq_false h, cond_false, cond_false, ih]
theorem aget_restrict {t : List (Nat × AV)} {x : Nat} {v : AV} : ∀ {K : List Nat}, aget (restrict t K) x = some v → aget t x = some v
  | [], h => by cases h
  | y :: K, h => by
    simp only [restrict] at h
    split at h
    · rename_i u hu
      simp only [aget] at h
      by_cases hxy : x = y
      · subst hxy
        rw [Nat.beq_refl, cond_true] at h
        rw [hu, h]
      · rw [beq_false hxy, cond_false] at h
        exact aget_restrict h
    · exact aget_restrict h
theorem norm_ok {K : List Nat} {st st' : St} (hn : norm K st = some st') : st'.n = st.n ∧ st'.m = st.m ∧ ∀ (E : Env) (a : Act), SR E st a → ∃ E', E'.w = E.w ∧ SR E' st' a ∧ EvM st.m E E' := by
  unfold norm at hn
  dsimp only at hn
  split at hn
  · rename_i acc hacc
    obtain ⟨h1, r, h2, h3⟩ := reach_spec hacc iota_nodup
    simp only [Option.some.injEq] at hn
    subst hn
    refine ⟨rfl, rfl, fun E a hS => ?_⟩
    obtain ⟨E', k1, k2, k3, k4, k5⟩ := shrink_env (h := st.h) hS.sf.ok hS.sf.h h1
    refine ⟨E', k4, ⟨⟨k1, fun id => ?_, fun x av hx => ?_, hS.sf.n, hS.sf.df⟩, fun id hid => ?_⟩, k5 st.m r h2⟩
    · rw [k2]
      show _ = aget (number 0 (objsAt st.h (idx acc) acc)) id
      rw [aget_number]
      simp
    · have hx : aget ((restrict st.t K).map fun p => (p.1, renAV (idx acc) p.2)) x = some av := hx
      rw [aget_map] at hx
      obtain ⟨v, hv, rfl⟩ := Option.map_eq_some_iff.1 hx
      exact RA.ren k3 (hS.sf.t x v (aget_restrict hv))
    · show aget (number 0 (objsAt st.h (idx acc) acc)) id = none
      rw [aget_number]
      simp only [Nat.zero_le, if_true, Nat.sub_zero]
      rw [List.getElem?_eq_none]
      rw [objsAt_length]
      exact hid
  · cases hn

/-! ### code -/
def Vx.to : Vx → Exit
  | .normal => .normal
  | .exit id => .exit id
  | .ret => .ret
def BodyOk (P : Program) (c : Code) (ex : St → Kont → Option Out) : Prop :=
  ∀ st k r, ex st k = some r → ∃ e st', k e st' = some r ∧ (∀ k', ex st k' = k' e st') ∧ st'.n = st.n ∧ st'.m = st.m ∧
    ∀ (E : Env) (a : Act) (Q : Exit → Act → World → Prop), SR E st a → (∀ E' a', SR E' st' a' → EvM st.m E E' → Q e.to a' E'.w) → c.wp P Q a E.w

theorem sr_drawn {E : Env} {st : St} {a : Act} (h : SR E st a) : ∃ E', E'.w = { E.w with drawn := E.w.drawn + 1 } ∧ SR E' st a ∧ ∀ m, EvM m E E' := by
  let E' : Env := { E with w := { E.w with drawn := E.w.drawn + 1 } }
  have hS : ∀ b, E.S b → E'.S b := fun b hb => hb
  have hev : Ev E E' := ⟨hS, fun _ _ => rfl, fun _ _ _ => rfl, fun id o ho => ⟨o, ho, by cases o <;> simp [shape], fun ⟨_, _, e⟩ => by subst e; rfl⟩, fun id o o' cs _ _ _ hb => ⟨cs, hb, rfl⟩⟩
  have hE := h.sf.ok
  refine ⟨E', rfl, ⟨⟨⟨fun id o ho => RO.mono hev (hE.obj id o ho) ho fun _ => rfl, hE.inj, hE.out, hE.dom, hE.gl.mono hev.s hev.c⟩, h.sf.h, fun x av hx => RA.mono hev (h.sf.t x av hx), h.sf.n, h.sf.df⟩, h.fresh⟩, fun m => ?_⟩
  exact ⟨hev.s, hev.c, rfl, fun _ _ => rfl, rfl, rfl, rfl, Nat.le_refl _, fun id _ => hev.i id, fun id _ => hev.h id, fun id _ => hev.z id⟩

theorem loop_det {P : Program} {c : Code} {ex : St → Kont → Option Out} (hb : BodyOk P c ex) {K : List Nat} : ∀ {n : Nat} {st : St} {k : Kont} {r : Out}, loopN ex K k n st = some r →
    ∃ e st', k e st' = some r ∧ (∀ k', loopN ex K k' n st = k' e st') ∧ st'.n = st.n ∧ st'.m = st.m
  | 0, st, k, r, h => by cases h
  | n + 1, st, k, r, h => by
    simp only [loopN] at h
    obtain ⟨e, st1, h1, h2, h3, h4, _⟩ := hb _ _ _ h
    cases e with
    | normal =>
      simp only at h1
      split at h1
      · rename_i st2 hn
        obtain ⟨n1, n2, _⟩ := norm_ok hn
        obtain ⟨e, st', g1, g2, g3, g4⟩ := loop_det hb h1
        refine ⟨e, st', g1, fun k' => ?_, g3.trans (n1.trans h3), g4.trans (n2.trans h4)⟩
        simp only [loopN]
        rw [h2]
        simp only [hn]
        exact g2 k'
      · cases h1
    | exit id => exact ⟨.exit id, st1, h1, fun k' => by simp only [loopN]; rw [h2], h3, h4⟩
    | ret => exact ⟨.ret, st1, h1, fun k' => by simp only [loopN]; rw [h2], h3, h4⟩
theorem least {p : Nat → Prop} (h : ∃ n, p n) : ∃ n, p n ∧ ∀ m, p m → n ≤ m := by
  obtain ⟨n, hn⟩ := h
  induction n using Nat.strongRecOn with
  | _ n ih =>
    by_cases hm : ∃ m, m < n ∧ p m
    · obtain ⟨m, h1, h2⟩ := hm
      exact ih m h1 h2
    · exact ⟨n, hn, fun m hm2 => Nat.le_of_not_lt fun hlt => hm ⟨m, hlt, hm2⟩⟩
theorem kont_eq {e e0 : Vx} {st st0 : St} (h : ∀ k : Kont, k e st = k e0 st0) : e = e0 ∧ st = st0 := by
  have := h (fun e1 st1 => @ite _ (e1 = e0 ∧ st1 = st0) (Classical.propDecidable _) (some (.tup [], [])) none)
  simp only [and_self, if_true] at this
  by_cases hc : e = e0 ∧ st = st0
  · exact hc
  · rw [if_neg hc] at this; cases this

theorem loop_wp {P : Program} {c : Code} {ex : St → Kont → Option Out} (hb : BodyOk P c ex) {K : List Nat} {n0 m : Nat} {e0 : Vx} {st0 st : St} (hdet : ∀ k', loopN ex K k' n0 st = k' e0 st0) (hm : st.m = m) {E0 : Env} {a : Act} (hS : SR E0 st a) {Q : Exit → Act → World → Prop}
    (hQ : ∀ E' a', SR E' st0 a' → EvM m E0 E' → Q e0.to a' E'.w) : (Code.loop c).wp P Q a E0.w := by
  let G : Nat → Act → World → Prop := fun n a w => ∃ st E, (∀ k', loopN ex K k' n st = k' e0 st0) ∧ SR E st a ∧ EvM m E0 E ∧ E.w = w ∧ st.m = m
  have hex : ∀ a w, ∃ n, (∃ n, G n a w) → G n a w ∧ ∀ n', G n' a w → n ≤ n' := by
    intro a w
    by_cases h : ∃ n, G n a w
    · obtain ⟨n, h1, h2⟩ := least h
      exact ⟨n, fun _ => ⟨h1, h2⟩⟩
    · exact ⟨0, fun h' => absurd h' h⟩
  refine wp_loop (fun a w => ∃ n, G n a w) (fun a w => Classical.choose (hex a w)) ⟨n0, st, E0, hdet, hS, EvM.refl E0, rfl, hm⟩ ?_
  intro a w hI
  obtain ⟨hG, _⟩ := Classical.choose_spec (hex a w) hI
  generalize Classical.choose (hex a w) = n at hG ⊢
  obtain ⟨st1, E1, hd, hS1, hev1, rfl, hm1⟩ := hG
  cases n with
  | zero => have := hd (fun _ _ => some (.tup [], [])); cases this
  | succ n =>
    have h0 := hd (fun _ _ => some (.tup [], []))
    simp only [loopN] at h0
    obtain ⟨e, st2, g1, g2, g3, g4, g5⟩ := hb _ _ _ h0
    refine g5 E1 a _ hS1 fun E' a' hS' hev' => ?_
    have hev2 : EvM m E0 E' := hev1.trans (hm1 ▸ hev')
    cases e with
    | normal =>
      have hd2 : ∀ k' : Kont, (match norm K st2 with | some st'' => loopN ex K k' n st'' | none => none) = k' e0 st0 := fun k' => by
        rw [← hd k']
        simp only [loopN]
        rw [g2]
        rfl
      cases hn : norm K st2 with
      | none =>
        have := hd2 (fun _ _ => some (.tup [], []))
        simp [hn] at this
      | some st3 =>
        obtain ⟨n1, n2, n3⟩ := norm_ok hn
        obtain ⟨E3, w3, hS3, hev3⟩ := n3 E' a' hS'
        have hG' : G n a' E'.w := ⟨st3, E3, fun k' => by have := hd2 k'; simpa [hn] using this, hS3, hev2.trans (by rw [← hm1, ← g4]; exact hev3), w3, by rw [n2, g4, hm1]⟩
        show (∃ n, G n a' E'.w) ∧ _ < _
        refine ⟨⟨n, hG'⟩, ?_⟩
        obtain ⟨_, hmin⟩ := Classical.choose_spec (hex a' E'.w) ⟨n, hG'⟩
        exact Nat.lt_succ_of_le (hmin n hG')
    | exit id =>
      have hd2 : ∀ k' : Kont, k' (.exit id) st2 = k' e0 st0 := fun k' => by
        rw [← hd k']
        simp only [loopN]
        rw [g2]
      obtain ⟨rfl, rfl⟩ := kont_eq hd2
      exact hQ E' a' hS' hev2
    | ret =>
      have hd2 : ∀ k' : Kont, k' .ret st2 = k' e0 st0 := fun k' => by
        rw [← hd k']
        simp only [loopN]
        rw [g2]
      obtain ⟨rfl, rfl⟩ := kont_eq hd2
      exact hQ E' a' hS' hev2

/-- a block from one state on -/
def BodyAt (P : Program) (c : Code) (st : St) (G : Kont → Option Out) : Prop :=
  ∀ k r, G k = some r → ∃ e st', k e st' = some r ∧ (∀ k', G k' = k' e st') ∧ st'.n = st.n ∧ st'.m = st.m ∧
    ∀ (E : Env) (a : Act) (Q : Exit → Act → World → Prop), SR E st a → (∀ E' a', SR E' st' a' → EvM st.m E E' → Q e.to a' E'.w) → c.wp P Q a E.w
/-- what is told of blocks is so -/
def Hooked (P : Program) (blk : Nat → Option (St → Option (Kont → Option Out))) : Code → Prop
  | .seq a b => (∀ g, seqHk blk a = some g → ∀ st G, g st = some G → BodyAt P (.seq a b) st G) ∧ Hooked P blk a ∧ Hooked P blk b
  | .cond _ a b => Hooked P blk a ∧ Hooked P blk b
  | .block id c => (∀ g, blk id = some g → ∀ st G, g st = some G → BodyAt P (.block id c) st G) ∧ Hooked P blk c
  | .loop c => Hooked P blk c
  | _ => True
theorem hooked_none {P : Program} : ∀ c : Code, Hooked P (fun _ => none) c := by
  intro c
  induction c with
  | seq a b iha ihb => exact ⟨fun g h => (by cases a <;> cases h), iha, ihb⟩
  | cond d a b iha ihb => exact ⟨iha, ihb⟩
  | block id c ih => exact ⟨fun g h => (by cases h), ih⟩
  | loop c ih => exact ih
  | _ => trivial

theorem exec_ok {P : Program} {C : Ctx} (hC : CtxOk P C) (hM : P.follows .mixedOrders = true) : ∀ c : Code, Hooked P C.blk c → BodyOk P c (exec C c) := by
  intro c
  induction c with
  | skip => intro hH; exact fun st k r h => ⟨.normal, st, h, fun _ => rfl, rfl, rfl, fun E a Q hS hQ => wp_skip (hQ E a hS (EvM.refl E))⟩
  | region id ops draw =>
    intro hH st k r h
    cases draw with
    | false =>
      obtain ⟨st', h1, h2, h3, h4, h5⟩ := execOps_ok hC st.m (show execOps C ops.toList (k .normal) ops.toList st = some r from h)
      exact ⟨.normal, st', h1, fun k' => h2 (k' .normal), h3, h4, fun E a Q hS hQ => wp_region_list (h5 E a Q hS hQ)⟩
    | true =>
      have h : (bif tempsOk ops.toList then execDraw C ops.toList (befs ops.toList) (k .normal) ops.toList 0 [] st else none) = some r := h
      obtain ⟨ht, h⟩ := cond_some h
      obtain ⟨effs, st', h1, h2, h3⟩ := execDraw_seq hC h
      obtain ⟨_, _, f3, f4, _⟩ := h3.final
      refine ⟨.normal, st', h1, fun k' => ?_, f3, f4, fun E a Q hS hQ => wp_region_any hM ?_⟩
      · show (bif tempsOk ops.toList then execDraw C ops.toList (befs ops.toList) (k' .normal) ops.toList 0 [] st else none) = _
        rw [ht, cond_true]
        exact h2 (k' .normal)
      · obtain ⟨E', w', hS', hev'⟩ := sr_drawn hS
        rw [← w']
        refine draw_main (st' := st') (E0 := E) st.m h3 ht hS.fresh (fun E2 a2 hS2 hev2 => hQ E2 a2 hS2 hev2) ops.size _ E' a (by simp) (by simp) (fun i o _ hx => ?_) ⟨hS'.sf.ok, fun id => ?_, fun x av hx => ?_, hS'.sf.n, hS'.sf.df⟩ (hev' st.m)
        · exfalso
          rw [Array.getD_eq_getD_getElem?] at hx
          rw [Array.getElem?_replicate] at hx
          split at hx <;> simp at hx
        · rw [sel_none]
          · exact hS'.sf.h id
          · intro q _
            rw [Array.getD_eq_getD_getElem?, Array.getElem?_replicate]
            split <;> rfl
        · rw [sel_none] at hx
          · exact hS'.sf.t x av hx
          · intro q _
            rw [Array.getD_eq_getD_getElem?, Array.getElem?_replicate]
            split <;> rfl
  | seq x y ihx ihy =>
    intro hH st k r h
    cases hb : (seqHk C.blk x).bind fun g => g st with
    | some G =>
      simp only [exec, hb] at h
      obtain ⟨g, hg, hG⟩ := Option.bind_eq_some_iff.1 hb
      obtain ⟨e, st', h1, h2, h3⟩ := hH.1 g hg st G hG k r h
      exact ⟨e, st', h1, fun k' => by simp only [exec, hb]; exact h2 k', h3⟩
    | none =>
    have ihx := ihx hH.2.1
    have ihy := ihy hH.2.2
    simp only [exec, hb] at h
    obtain ⟨e, st1, h1, h2, h3, h4, h5⟩ := ihx _ _ _ h
    cases e with
    | normal =>
      simp only at h1
      obtain ⟨e, st', g1, g2, g3, g4, g5⟩ := ihy _ _ _ h1
      refine ⟨e, st', g1, fun k' => ?_, g3.trans h3, g4.trans h4, fun E a Q hS hQ => wp_seq (h5 E a _ hS fun E1 a1 hS1 hev1 => ?_)⟩
      · simp only [exec, hb]
        rw [h2]
        exact g2 k'
      · exact g5 E1 a1 Q hS1 fun E2 a2 hS2 hev2 => hQ E2 a2 hS2 (hev1.trans (h4 ▸ hev2))
    | exit id => exact ⟨.exit id, st1, h1, fun k' => by simp only [exec, hb]; rw [h2], h3, h4, fun E a Q hS hQ => wp_seq (h5 E a _ hS fun E1 a1 hS1 hev1 => hQ E1 a1 hS1 hev1)⟩
    | ret => exact ⟨.ret, st1, h1, fun k' => by simp only [exec, hb]; rw [h2], h3, h4, fun E a Q hS hQ => wp_seq (h5 E a _ hS fun E1 a1 hS1 hev1 => hQ E1 a1 hS1 hev1)⟩
  | cond d x y ihx ihy =>
    intro hH st k r h
    have ihx := ihx hH.1
    have ihy := ihy hH.2
    cases d with
    | tmp d =>
      simp only [exec] at h
      split at h
      · rename_i b hb
        have same : ∀ (b : Bool), aget st.t d = some (.b b) → ∀ E a, SR E st a → SR E { st with t := aput st.t d (.b b) } a ∧ a.eval (.tmp d) = .bool b := by
          intro b hb E a hS
          refine ⟨⟨⟨hS.sf.ok, hS.sf.h, fun x av hx => hS.sf.t x av ?_, hS.sf.n, hS.sf.df⟩, hS.fresh⟩, (hS.sf.t d _ hb).1⟩
          rw [← hx, aget_aput]
          by_cases h1 : x = d
          · subst h1; rw [if_pos rfl, hb]
          · rw [if_neg h1]
        cases b with
        | true =>
          simp only [cond_true] at h
          obtain ⟨e, st', h1, h2, h3, h4, h5⟩ := ihx _ _ _ h
          refine ⟨e, st', h1, fun k' => ?_, h3, h4, fun E a Q hS hQ => ?_⟩
          · simp only [exec, hb, cond_true]
            exact h2 k'
          · obtain ⟨k1, k2⟩ := same true hb E a hS
            exact wp_cond_true k2 (h5 E a Q k1 hQ)
        | false =>
          simp only [cond_false] at h
          obtain ⟨e, st', h1, h2, h3, h4, h5⟩ := ihy _ _ _ h
          refine ⟨e, st', h1, fun k' => ?_, h3, h4, fun E a Q hS hQ => ?_⟩
          · simp only [exec, hb, cond_false]
            exact h2 k'
          · obtain ⟨k1, k2⟩ := same false hb E a hS
            exact wp_cond_false k2 (h5 E a Q k1 hQ)
      · cases h
    | const v =>
      cases v with
      | bool b =>
        cases b with
        | true =>
          simp only [exec, cond_true] at h
          obtain ⟨e, st', h1, h2, h3, h4, h5⟩ := ihx _ _ _ h
          refine ⟨e, st', h1, fun k' => ?_, h3, h4, fun E a Q hS hQ => wp_cond_true rfl (h5 E a Q hS hQ)⟩
          simp only [exec, cond_true]
          exact h2 k'
        | false =>
          simp only [exec, cond_false] at h
          obtain ⟨e, st', h1, h2, h3, h4, h5⟩ := ihy _ _ _ h
          refine ⟨e, st', h1, fun k' => ?_, h3, h4, fun E a Q hS hQ => wp_cond_false rfl (h5 E a Q hS hQ)⟩
          simp only [exec, cond_false]
          exact h2 k'
      | _ => simp [exec] at h
    | global g => simp [exec] at h
    | func f => simp [exec] at h
  | block id c ih =>
    intro hH st k r h
    cases hb : (C.blk id).bind fun g => g st with
    | some G =>
      simp only [exec, hb] at h
      obtain ⟨g, hg, hG⟩ := Option.bind_eq_some_iff.1 hb
      obtain ⟨e, st', h1, h2, h3⟩ := hH.1 g hg st G hG k r h
      exact ⟨e, st', h1, fun k' => by simp only [exec, hb]; exact h2 k', h3⟩
    | none =>
    have ih := ih hH.2
    simp only [exec, hb] at h
    obtain ⟨e, st1, h1, h2, h3, h4, h5⟩ := ih _ _ _ h
    cases e with
    | normal => exact ⟨.normal, st1, h1, fun k' => by simp only [exec, hb]; rw [h2], h3, h4, fun E a Q hS hQ => wp_block (h5 E a _ hS fun E1 a1 hS1 hev1 => hQ E1 a1 hS1 hev1)⟩
    | exit j =>
      simp only at h1
      by_cases hj : j = id
      · subst hj
        rw [Nat.beq_refl, cond_true] at h1
        refine ⟨.normal, st1, h1, fun k' => ?_, h3, h4, fun E a Q hS hQ => wp_block (h5 E a _ hS fun E1 a1 hS1 hev1 => ?_)⟩
        · simp only [exec, hb]
          rw [h2]
          simp only [Nat.beq_refl, cond_true]
        · show Exit.inBlock j Q (.exit j) a1 E1.w
          simp only [Exit.inBlock, if_true]
          exact hQ E1 a1 hS1 hev1
      · rw [beq_false hj, cond_false] at h1
        refine ⟨.exit j, st1, h1, fun k' => ?_, h3, h4, fun E a Q hS hQ => wp_block (h5 E a _ hS fun E1 a1 hS1 hev1 => ?_)⟩
        · simp only [exec, hb]
          rw [h2]
          simp only [beq_false hj, cond_false]
        · show Exit.inBlock id Q (.exit j) a1 E1.w
          simp only [Exit.inBlock, if_neg hj]
          exact hQ E1 a1 hS1 hev1
    | ret => exact ⟨.ret, st1, h1, fun k' => by simp only [exec, hb]; rw [h2], h3, h4, fun E a Q hS hQ => wp_block (h5 E a _ hS fun E1 a1 hS1 hev1 => hQ E1 a1 hS1 hev1)⟩
  | loop c ih =>
    intro hH st k r h
    have ih := ih hH
    simp only [exec] at h
    split at h
    · rename_i st1 hn
      obtain ⟨n1, n2, n3⟩ := norm_ok hn
      obtain ⟨e, st', g1, g2, g3, g4⟩ := loop_det ih h
      refine ⟨e, st', g1, fun k' => ?_, g3.trans n1, g4.trans n2, fun E a Q hS hQ => ?_⟩
      · simp only [exec, hn]
        exact g2 k'
      · obtain ⟨E', w', hS', hev'⟩ := n3 E a hS
        rw [← w']
        exact loop_wp ih g2 n2 hS' fun E2 a2 hS2 hev2 => hQ E2 a2 hS2 (hev'.trans hev2)
    · cases h
  | rangeFunc f ps a c iha ihc => intro hH st k r h; simp [exec] at h
  | exit id => intro hH; exact fun st k r h => ⟨.exit id, st, h, fun _ => rfl, rfl, rfl, fun E a Q hS hQ => wp_exit (hQ E a hS (EvM.refl E))⟩
  | scope c ih => intro hH st k r h; simp [exec] at h
  | label l => intro hH st k r h; simp [exec] at h
  | goto l => intro hH st k r h; simp [exec] at h
  | ret => intro hH; exact fun st k r h => ⟨.ret, st, h, fun _ => rfl, rfl, rfl, fun E a Q hS hQ => wp_ret (hQ E a hS (EvM.refl E))⟩
  | refuse w => intro hH st k r h; simp [exec] at h

/-! ### functions -/
section
variable {P : Program} {tt : Nat → Option TD}
theorem result_ok (hT : TT P tt) {st : St} {E : Env} {a : Act} (hS : SR E st a) {r : ResultVar} {v : VV} (hv : resultOf tt st r = some v) :
    ∃ y, (match r with | .tmp t => pure (a.tmps.getD t undef) | .cell x t => do loadVar t (← asAddr (a.tmps.getD x undef)) : Sem Value).run P E.w = .ok y E.w ∧ RV E v y := by
  cases r with
  | tmp x =>
    simp only [resultOf] at hv
    obtain ⟨av, h1, h2⟩ := Option.bind_eq_some_iff.1 hv
    cases av with
    | tup l => cases h2
    | v z => simp [asV] at h2; subst h2; exact ⟨_, rfl, hS.sf.t x _ h1⟩
  | cell x T =>
    simp only [resultOf] at hv
    split at hv
    · rename_i id off td hx htd
      split at hv
      · rename_i ro l hl
        have hev : evLoad tt st.h T (.ptr id off) = .done { v := some (.v v), rd := [id] } := by
          simp only [evLoad, hl, htd, hv, Stp.of]
        obtain ⟨v', e1, e2, h3⟩ := evLoad_ok (h := st.h) hT (u := { v := some (.v v), rd := [id] }) (by rw [hev]; rfl)
        have hp := hS.sf.t x _ hx
        obtain ⟨y, h4, h5⟩ := h3 E hS.sf.ok (fun id _ => hS.sf.h id) _ hp
        simp at e1
        subst e1
        refine ⟨y, ?_, h5⟩
        rw [← h4]
        have hH : E.H id = some (.cells ro l) := (hS.sf.h id).trans hl
        have e : a.tmps.getD x undef = .pointer (some ⟨E.ι id, off, none⟩) := by
          simpa only [RA, RV, RC, hH] using hp
        simp only [e, Instr.loadAt, Instr.sureAddr, asAddr, Sem.run_bind, Sem.run_pure, Result.andThen_ok]
      · cases hv
    · cases hv
theorem results_ok (hT : TT P tt) {st : St} {E : Env} {a : Act} (hS : SR E st a) : ∀ {l : List ResultVar} {vs : List VV}, resultsOf tt st l = some vs →
    ∃ ys : List Value, (l.mapM (fun r => (match r with | .tmp t => pure (a.tmps.getD t undef) | .cell x t => do loadVar t (← asAddr (a.tmps.getD x undef)) : Sem Value))).run P E.w = .ok ys E.w ∧ RL (RV E) vs ys
  | [], vs, hv => by simp [resultsOf] at hv; subst hv; exact ⟨[], rfl, .nil⟩
  | r :: l, vs, hv => by
    simp only [resultsOf] at hv
    split at hv
    · rename_i v vs' h1 h2
      simp at hv
      subst hv
      obtain ⟨y, k1, k2⟩ := result_ok hT hS h1
      obtain ⟨ys, k3, k4⟩ := results_ok hT hS h2
      refine ⟨y :: ys, ?_, .cons k2 k4⟩
      simp only [List.mapM_cons, Sem.run_bind, k1, Result.andThen_ok, k3, Sem.run_pure]
    · cases hv
/-- between two abstract heaps over one memory -/
structure Qt (E E' : Env) : Prop where
  ok : E'.ok
  w : E'.w = E.w
  D : E'.D = E.D
  ev : Ev E E'
theorem Qt.trans {A B C : Env} (h : Qt A B) (k : Qt B C) : Qt A C := ⟨k.ok, k.w.trans h.w, k.D.trans h.D, h.ev.trans k.ev⟩
theorem Qt.evm {E E' : Env} (h : Qt E E') (m : Nat) : EvM m E E' :=
  ⟨h.ev.s, h.ev.c, h.D, fun _ _ => by rw [h.w], by rw [h.w], by rw [h.w], by rw [h.w], by rw [h.w]; exact Nat.le_refl _, fun id _ => h.ev.i id, fun id _ => h.ev.h id, fun id _ => h.ev.z id⟩
structure HS (E : Env) (st : St) : Prop where
  h : ∀ id, E.H id = aget st.h id
  fresh : ∀ id, st.nx ≤ id → aget st.h id = none
theorem trimC_ok {all : List Nat} {x : CV} {st : St} {E : Env} {v : Value} (hE : E.ok) (hH : HS E st) (hx : RC E x v) : ∃ E', Qt E E' ∧ HS E' (trimC all x st).2 ∧ RC E' (trimC all x st).1 v ∧ (trimC all x st).2.m = st.m ∧ (trimC all x st).2.n = st.n := by
  have triv : ∃ E', Qt E E' ∧ HS E' st ∧ RC E' x v ∧ st.m = st.m ∧ st.n = st.n := ⟨E, ⟨hE, rfl, rfl, Ev.refl E⟩, hH, hx, rfl, rfl⟩
  unfold trimC
  split
  · rename_i id m
    split
    · rename_i nl k e n f hid
      cases hb : Nat.beq (cntN id all) 1 with
      | false => exact triv
      | true =>
        rw [cond_true]
        have hid' : E.H id = some (.parr false nl k e n f) := (hH.h id).trans hid
        have hnx : E.H st.nx = none := (hH.h st.nx).trans (hH.fresh st.nx (Nat.le_refl _))
        have hne : id ≠ st.nx := fun h => by rw [h, hnx] at hid'; cases hid'
        simp only [RC, hid'] at hx
        have hmn := hx.1
        let E' : Env := ⟨fun y => if y = st.nx then E.ι id else E.ι y, fun y => if y = st.nx then some (.parr false nl k e m f) else if y = id then some .dead else E.H y, E.D, E.w⟩
        have hn : E'.H st.nx = some (.parr false nl k e m f) := if_pos rfl
        have hι : ∀ y, y ≠ st.nx → E'.ι y = E.ι y := fun y h => if_neg h
        have hιn : E'.ι st.nx = E.ι id := if_pos rfl
        have hoth : ∀ y, y ≠ st.nx → y ≠ id → E'.H y = E.H y := fun y h1 h2 => (if_neg h1).trans (if_neg h2)
        have hd : E'.H id = some .dead := (if_neg hne).trans (if_pos rfl)
        have hback : ∀ y o, E'.H y = some o → rw o = true ∨ blkd o = true → (y = st.nx ∧ o = .parr false nl k e m f) ∨ (y ≠ st.nx ∧ y ≠ id ∧ E.H y = some o) := by
          intro y o ho hr
          by_cases h1 : y = st.nx
          · subst h1
            rw [hn] at ho
            injection ho with ho
            exact .inl ⟨rfl, ho.symm⟩
          · by_cases h2 : y = id
            · subst h2
              rw [hd] at ho
              injection ho with ho
              subst ho
              rcases hr with hr | hr <;> cases hr
            · exact .inr ⟨h1, h2, by rw [← hoth y h1 h2]; exact ho⟩
        have hne2 : ∀ y o, E.H y = some o → y ≠ st.nx := fun y o h e => by rw [e, hnx] at h; cases h
        have hev : Ev E E' := {
          s := fun b ⟨h1, h2, h3⟩ => ⟨h1, h2, fun y o ho hr => by
            rcases hback y o ho (.inl hr) with ⟨rfl, rfl⟩ | ⟨g1, g2, g3⟩
            · rw [hιn]; exact h3 id _ hid' (by cases nl <;> simp_all [rw])
            · rw [hι y g1]; exact h3 y o g3 hr⟩
          c := fun _ _ => rfl
          i := fun y o ho => hι y (hne2 y o ho)
          h := fun y o ho => by
            by_cases hy : y = id
            · subst hy
              rw [hid'] at ho
              injection ho with ho
              subst ho
              exact ⟨.dead, hd, rfl, by rintro ⟨_, _, e⟩; cases e⟩
            · exact ⟨o, by rw [hoth y (hne2 y o ho) hy, ho], by cases o <;> simp [shape], fun ⟨_, _, e⟩ => by subst e; rfl⟩
          z := fun y o o' cs ho ho' hb hbl => ⟨cs, Env.blk_same hbl (hι y (hne2 y o ho)) rfl, rfl⟩ }
        have hbl : ∀ cs, E.blk id cs → E'.blk st.nx cs := fun cs ⟨T, fr, g1, g2⟩ => ⟨T, fr, by rw [hιn]; exact g1, g2⟩
        have hme : m * e ≤ n * e := Nat.mul_le_mul_right _ hmn
        refine ⟨E', ⟨{ obj := fun y o ho => ?_, inj := fun i j oi oj hi hj hri hbj hij => ?_, out := fun y o ho hr => ?_, dom := hE.dom, gl := hE.gl.mono hev.s hev.c }, rfl, rfl, hev⟩, ⟨fun y => ?_, fun y hy => ?_⟩, ?_, rfl, rfl⟩
        · by_cases h1 : y = st.nx
          · subst h1
            rw [hn] at ho
            injection ho with ho
            subst ho
            have hro := hE.obj id _ hid'
            refine ⟨fun j hj c => hro.1 j (by omega) c, ?_⟩
            rcases hro.2 with ⟨g1, g2⟩ | ⟨g1, cs, g2, g3, g4, _⟩
            · exact .inl ⟨g1, by omega⟩
            · exact .inr ⟨g1, cs, hbl cs g2, by omega, fun j hj c hc => let ⟨y, hy, hr⟩ := g4 j (by omega) c hc; ⟨y, hy, RP.mono hev.s hev.c hr⟩, fun e => by cases e⟩
          · by_cases h2 : y = id
            · subst h2
              rw [hd] at ho
              injection ho with ho
              subst ho
              trivial
            · rw [hoth y h1 h2] at ho
              exact RO.mono hev (hE.obj y o ho) ho fun _ => rfl
        · rcases hback i oi hi (.inl hri) with ⟨rfl, rfl⟩ | ⟨g1, g2, g3⟩
          · rcases hback j oj hj (.inr hbj) with ⟨rfl, rfl⟩ | ⟨k1, k2, k3⟩
            · exact absurd rfl hij
            · rw [hιn, hι j k1]
              exact hE.inj id j _ oj hid' k3 (by cases nl <;> simp_all [rw]) hbj fun e => k2 e.symm
          · rcases hback j oj hj (.inr hbj) with ⟨rfl, rfl⟩ | ⟨k1, k2, k3⟩
            · rw [hιn, hι i g1]
              exact hE.inj i id oi _ g3 hid' hri (by cases nl <;> simp_all [blkd]) g2
            · rw [hι i g1, hι j k1]
              exact hE.inj i j oi oj g3 k3 hri hbj hij
        · show ¬ E.D (E'.ι y)
          rcases hback y o ho (.inl hr) with ⟨rfl, rfl⟩ | ⟨g1, g2, g3⟩
          · rw [hιn]; exact hE.out id _ hid' (by cases nl <;> simp_all [rw])
          · rw [hι y g1]; exact hE.out y o g3 hr
        · show (if y = st.nx then _ else if y = id then _ else E.H y) = aget (aput (aput st.h id .dead) st.nx _) y
          rw [aget_aput, aget_aput, hH.h]
        · show aget (aput (aput st.h id .dead) st.nx _) y = none
          have hy : st.nx + 1 ≤ y := hy
          have hyi : y ≠ id := fun e => by rw [e] at hy; have := hH.fresh id (by omega); rw [this] at hid; cases hid
          rw [aget_aput, aget_aput, if_neg (by omega), if_neg hyi]
          exact hH.fresh y (by omega)
        · simp only [RC, hn]
          refine ⟨Nat.le_refl _, ?_⟩
          rcases hx.2 with ⟨g1, g2, g3⟩ | ⟨g1, cap, cs, g2, g3, g4, g5⟩
          · exact .inl ⟨g1, by omega, g3⟩
          · exact .inr ⟨g1, cap, cs, by rw [hιn, g2], by omega, hbl cs g4, g5⟩
    · exact triv
  · exact triv
theorem trimL_ok {all : List Nat} : ∀ {l : List CV} {st : St} {E : Env} {vs : List Value}, E.ok → HS E st → RL (RC E) l vs → ∃ E', Qt E E' ∧ HS E' (trimL all l st).2 ∧ RL (RC E') (trimL all l st).1 vs ∧ (trimL all l st).2.m = st.m ∧ (trimL all l st).2.n = st.n
  | [], st, E, vs, hE, hH, hl => ⟨E, ⟨hE, rfl, rfl, Ev.refl E⟩, hH, hl, rfl, rfl⟩
  | x :: l, st, E, _, hE, hH, hl => by
    cases hl with
    | cons h1 h2 =>
      obtain ⟨E1, q1, s1, r1, m1, n1⟩ := trimC_ok (all := all) hE hH h1
      obtain ⟨E2, q2, s2, r2, m2, n2⟩ := trimL_ok (all := all) q1.ok s1 (h2.mono fun _ _ => RC.mono q1.ev)
      exact ⟨E2, q1.trans q2, s2, .cons (RC.mono q2.ev r1) r2, m2.trans m1, n2.trans n1⟩
theorem trimVV_ok {all : List Nat} {x : VV} {st : St} {E : Env} {v : Value} (hE : E.ok) (hH : HS E st) (hx : RV E x v) : ∃ E', Qt E E' ∧ HS E' (trimVV all x st).2 ∧ RV E' (trimVV all x st).1 v ∧ (trimVV all x st).2.m = st.m ∧ (trimVV all x st).2.n = st.n := by
  cases x with
  | c x => exact trimC_ok hE hH hx
  | agg l =>
    obtain ⟨cs, e, hl⟩ := hx
    obtain ⟨E1, q1, s1, r1, m1, n1⟩ := trimL_ok (all := all) hE hH hl
    exact ⟨E1, q1, s1, ⟨cs, e, r1⟩, m1, n1⟩
theorem trimVL_ok {all : List Nat} : ∀ {l : List VV} {st : St} {E : Env} {vs : List Value}, E.ok → HS E st → RL (RV E) l vs → ∃ E', Qt E E' ∧ HS E' (trimVL all l st).2 ∧ RL (RV E') (trimVL all l st).1 vs ∧ (trimVL all l st).2.m = st.m ∧ (trimVL all l st).2.n = st.n
  | [], st, E, vs, hE, hH, hl => ⟨E, ⟨hE, rfl, rfl, Ev.refl E⟩, hH, hl, rfl, rfl⟩
  | x :: l, st, E, _, hE, hH, hl => by
    cases hl with
    | cons h1 h2 =>
      obtain ⟨E1, q1, s1, r1, m1, n1⟩ := trimVV_ok (all := all) hE hH h1
      obtain ⟨E2, q2, s2, r2, m2, n2⟩ := trimVL_ok (all := all) q1.ok s1 (h2.mono fun _ _ => RV.mono q1.ev)
      exact ⟨E2, q1.trans q2, s2, .cons (RV.mono q2.ev r1) r2, m2.trans m1, n2.trans n1⟩
theorem trimAV_ok {x : AV} {st : St} {E : Env} {v : Value} (hE : E.ok) (hH : HS E st) (hx : RA E x v) : ∃ E', Qt E E' ∧ HS E' (trimAV x st).2 ∧ RA E' (trimAV x st).1 v ∧ (trimAV x st).2.m = st.m ∧ (trimAV x st).2.n = st.n := by
  cases x with
  | v x => exact trimVV_ok hE hH hx
  | tup l =>
    obtain ⟨cs, e, hl⟩ := hx
    obtain ⟨E1, q1, s1, r1, m1, n1⟩ := trimVL_ok (all := l.flatMap vvIds) hE hH hl
    exact ⟨E1, q1, s1, ⟨cs, e, r1⟩, m1, n1⟩
theorem phO_step {st : St} {E : Env} {k : CK} {e : Nat} (hE : E.ok) (hH : HS E st) : ∃ E', Qt E E' ∧ HS E' { st with h := aput st.h st.nx (phO k e), nx := st.nx + 1 } ∧ RC E' (.own st.nx) (.slice none 0 0) := by
  have hj : E.H st.nx = none := (hH.h _).trans (hH.fresh _ (Nat.le_refl _))
  obtain ⟨ok1, ev1⟩ := new_ph (k := k) (e := e) hE hj
  refine ⟨_, ⟨ok1, rfl, rfl, ev1⟩, ⟨fun id => ?_, fun id hid => ?_⟩, ?_⟩
  · show (if id = st.nx then _ else E.H id) = aget (aput st.h st.nx (phO k e)) id
    rw [aget_aput, hH.h]
  · have hid : st.nx + 1 ≤ id := hid
    show aget (aput st.h st.nx (phO k e)) id = none
    rw [aget_aput, if_neg (by omega)]
    exact hH.fresh id (by omega)
  · simp only [RC, if_pos, phO]
    exact ⟨Nat.le_refl _, .inl ⟨rfl, rfl, rfl⟩⟩
theorem phL_ok : ∀ {ps : List (Nat × CK × Nat)} {l : List CV} {st : St} {E : Env} {vs : List Value}, E.ok → HS E st → RL (RC E) l vs → ∃ E', Qt E E' ∧ HS E' (phL ps l st).2 ∧ RL (RC E') (phL ps l st).1 vs ∧ (phL ps l st).2.m = st.m
  | [], l, st, E, vs, hE, hH, hl => ⟨E, ⟨hE, rfl, rfl, Ev.refl E⟩, hH, hl, rfl⟩
  | (i, k, e) :: r, l, st, E, vs, hE, hH, hl => by
    unfold phL
    split
    · rename_i hi
      obtain ⟨E1, q1, s1, r1⟩ := phO_step (k := k) (e := e) hE hH
      have hl1 : RL (RC E1) (l.set i (.own st.nx)) vs := (hl.mono fun _ _ => RC.mono q1.ev).set fun y hy => by
        obtain ⟨y', hy', hr⟩ := hl.get hi
        rw [hy] at hy'
        injection hy' with hy'
        subst hy'
        obtain ⟨rfl, _⟩ := hr
        exact r1
      obtain ⟨E2, q2, s2, r2, m2⟩ := phL_ok (ps := r) q1.ok s1 hl1
      exact ⟨E2, q1.trans q2, s2, r2, m2⟩
    · exact phL_ok hE hH hl
theorem phVV_ok {ps : List (Nat × CK × Nat)} {x : VV} {st : St} {E : Env} {v : Value} (hE : E.ok) (hH : HS E st) (hx : RV E x v) : ∃ E', Qt E E' ∧ HS E' (phVV ps x st).2 ∧ RV E' (phVV ps x st).1 v ∧ (phVV ps x st).2.m = st.m := by
  have triv : ∀ y, RV E y v → ∃ E', Qt E E' ∧ HS E' st ∧ RV E' y v ∧ st.m = st.m := fun y hy => ⟨E, ⟨hE, rfl, rfl, Ev.refl E⟩, hH, hy, rfl⟩
  cases x with
  | c x =>
    unfold phVV
    dsimp only
    split
    · split
      · obtain ⟨E1, q1, s1, r1⟩ := phO_step (st := st) hE hH
        obtain ⟨rfl, _⟩ := hx
        exact ⟨E1, q1, s1, r1, rfl⟩
      · exact triv _ hx
    · exact triv _ hx
  | agg l =>
    obtain ⟨cs, e, hl⟩ := hx
    obtain ⟨E1, q1, s1, r1, m1⟩ := phL_ok (ps := ps) hE hH hl
    exact ⟨E1, q1, s1, ⟨cs, e, r1⟩, m1⟩
theorem phVL_ok {tt : Nat → Option TD} : ∀ {ts : List Nat} {l : List VV} {st : St} {E : Env} {vs : List Value}, E.ok → HS E st → RL (RV E) l vs → ∃ E', Qt E E' ∧ HS E' (phVL tt ts l st).2 ∧ RL (RV E') (phVL tt ts l st).1 vs ∧ (phVL tt ts l st).2.m = st.m
  | [], l, st, E, vs, hE, hH, hl => ⟨E, ⟨hE, rfl, rfl, Ev.refl E⟩, by simpa [phVL] using hH, by simpa [phVL] using hl, by simp [phVL]⟩
  | _ :: _, [], st, E, vs, hE, hH, hl => ⟨E, ⟨hE, rfl, rfl, Ev.refl E⟩, by simpa [phVL] using hH, by simpa [phVL] using hl, by simp [phVL]⟩
  | T :: ts, x :: l, st, E, _, hE, hH, hl => by
    cases hl with
    | cons h1 h2 =>
      obtain ⟨E1, q1, s1, r1, m1⟩ := phVV_ok (ps := phOf tt T) hE hH h1
      obtain ⟨E2, q2, s2, r2, m2⟩ := phVL_ok (tt := tt) (ts := ts) q1.ok s1 (h2.mono fun _ _ => RV.mono q1.ev)
      exact ⟨E2, q1.trans q2, s2, .cons (RV.mono q2.ev r1) r2, m2.trans m1⟩
theorem leave_ok (hT : TT P tt) {tr ph : Bool} {fn : Func} {st : St} {k : AV → List AObj → Option Out} {r : Out} (hk : leave tt tr ph fn st k = some r) :
    ∃ v os, k v os = some r ∧ (∀ k', leave tt tr ph fn st k' = k' v os) ∧ ∀ E a, SR E st a → ∃ x E', (results fn a.tmps).run P E.w = .ok x E.w ∧ E'.w = E.w ∧ E'.ok ∧ (∀ id, E'.H id = os[id]?) ∧ RA E' v x ∧ EvM st.m E E' := by
  unfold leave at hk ⊢
  split at hk
  · rename_i vs hvs
    dsimp only at hk ⊢
    split at hk
    · rename_i acc hacc
      refine ⟨_, _, hk, fun _ => rfl, fun E a hS => ?_⟩
      obtain ⟨h1, r2, h2, h3⟩ := reach_spec hacc iota_nodup
      obtain ⟨ys, y1, y2⟩ := results_ok hT hS hvs
      have hm : (fn.results.mapM (fun r => (match r with | .tmp t => pure (a.tmps.getD t undef) | .cell x t => do loadVar t (← asAddr (a.tmps.getD x undef)) : Sem Value))).run P E.w = .ok ys.toArray E.w := by
        rw [Array.mapM_eq_mapM_toList]
        rw [Sem.run_map]
        erw [y1]
        rfl
      have hrun : (results fn a.tmps).run P E.w = .ok (if h : ys.toArray.size = 1 then ys.toArray[0] else .tuple ys.toArray) E.w := by
        unfold results
        simp only [Sem.run_bind]
        erw [hm]
        rfl
      have hp : ∃ E0, Qt E E0 ∧ HS E0 (phQ ph tt fn.resultTypes.toList vs st).2 ∧ RL (RV E0) (phQ ph tt fn.resultTypes.toList vs st).1 ys ∧ (phQ ph tt fn.resultTypes.toList vs st).2.m = st.m := by
        cases ph with
        | false => exact ⟨E, ⟨hS.sf.ok, rfl, rfl, Ev.refl E⟩, ⟨hS.sf.h, hS.fresh⟩, y2, rfl⟩
        | true => exact phVL_ok hS.sf.ok ⟨hS.sf.h, hS.fresh⟩ y2
      obtain ⟨E0, q0, s0, y3, m0⟩ := hp
      generalize phQ ph tt fn.resultTypes.toList vs st = pq at *
      have hra : RA E0 (avOf pq.1) (if h : ys.toArray.size = 1 then ys.toArray[0] else .tuple ys.toArray) := by
        obtain ⟨vs1, st1⟩ := pq
        cases y3 with
        | nil => exact ⟨#[], rfl, .nil⟩
        | cons hx hr =>
          cases hr with
          | nil => exact hx
          | cons hy hr2 =>
            simp
            exact ⟨_, rfl, .cons hx (.cons hy hr2)⟩
      have hq : ∃ E1, Qt E E1 ∧ HS E1 (trimQ tr (avOf pq.1) pq.2).2 ∧ RA E1 (trimQ tr (avOf pq.1) pq.2).1 (if h : ys.toArray.size = 1 then ys.toArray[0] else .tuple ys.toArray) ∧ (trimQ tr (avOf pq.1) pq.2).2.m = st.m := by
        cases tr with
        | false => exact ⟨E0, q0, s0, hra, m0⟩
        | true =>
          obtain ⟨E1, q1, s1, r1, m1, _⟩ := trimAV_ok q0.ok s0 hra
          exact ⟨E1, q0.trans q1, s1, r1, m1.trans m0⟩
      obtain ⟨E1, q1, s1, r1, m1⟩ := hq
      obtain ⟨E', k1, k2, k3, k4, k5⟩ := shrink_env q1.ok s1.h h1
      refine ⟨_, E', hrun, k4.trans q1.w, k1, k2, RA.ren k3 r1, ?_⟩
      exact (q1.evm st.m).trans (k5 st.m r2 (by rw [← m1]; exact h2))
    · cases hk
  · cases hk

theorem enter_ok {C : Ctx} (hC : CtxOk P C) (hM : P.follows .mixedOrders = true) {f : FuncId} {fn : Func} (hf : P.funcs[f]? = some fn) (hH : ∀ c, fn.body = some c → Hooked P C.blk c) (hname : (fn.name == "runtime.NumGoroutine") = false) {args : List AV} {hs : List AObj} {k : AV → List AObj → Option Out} {r : Out} (hk : enter C fn args hs k = some r) :
    ∃ v os, k v os = some r ∧ (∀ k', enter C fn args hs k' = k' v os) ∧ CallOk P f args hs v os := by
  unfold enter at hk ⊢
  split at hk
  · rename_i c hc
    obtain ⟨hle, hk⟩ := cond_some hk
    have hle' := Nat.le_of_ble_eq_true hle
    obtain ⟨e, st', h1, h2, h3, h4, h5⟩ := exec_ok hC hM c (hH c hc) _ _ _ hk
    have fin : ∀ {e}, (match e with | Vx.exit _ => none | _ => leave C.tt C.trim C.phr fn st' k) = some r → ∃ v os, k v os = some r ∧ (∀ k' : AV → List AObj → Option Out, (match e with | Vx.exit _ => none | _ => leave C.tt C.trim C.phr fn st' k') = k' v os) ∧ ((∃ j, e = .exit j) → False) ∧ ∀ E a, SR E st' a → ∃ x E', (results fn a.tmps).run P E.w = .ok x E.w ∧ E'.w = E.w ∧ E'.ok ∧ (∀ id, E'.H id = os[id]?) ∧ RA E' v x ∧ EvM st'.m E E' := by
      intro e he
      cases e with
      | exit j => cases he
      | normal => obtain ⟨v, os, g1, g2, g3⟩ := leave_ok hC.tt he; exact ⟨v, os, g1, g2, (by rintro ⟨j, e⟩; cases e), g3⟩
      | ret => obtain ⟨v, os, g1, g2, g3⟩ := leave_ok hC.tt he; exact ⟨v, os, g1, g2, (by rintro ⟨j, e⟩; cases e), g3⟩
    obtain ⟨v, os, g1, g2, g3, g4⟩ := fin h1
    refine ⟨v, os, g1, fun k' => ?_, ⟨⟨fn, hf, by rw [hc]; rfl, hname⟩, fun E vals hE hH hvals => ?_⟩⟩
    · rw [hle, cond_true, h2]
      exact g2 k'
    · have hvl := hvals.length
      refine calls_of_wp hf hc ?_
      have hS : SR E { n := fn.ntmps, m := hs.length, t := number 0 args, h := number 0 hs, nx := hs.length } { tmps := vals.toArray ++ Array.replicate (fn.ntmps - vals.toArray.size) undef, defers := [] } := by
        refine ⟨⟨hE, fun id => ?_, fun x av hx => ?_, ?_, rfl⟩, fun id hid => ?_⟩
        · show _ = aget (number 0 hs) id
          rw [aget_number]
          simpa using hH id
        · have hx : aget (number 0 args) x = some av := hx
          rw [aget_number] at hx
          simp only [Nat.zero_le, if_true, Nat.sub_zero] at hx
          obtain ⟨y, hy, hr⟩ := hvals.get hx
          have hlt := (List.getElem?_eq_some_iff.1 hy).1
          have : (vals.toArray ++ Array.replicate (fn.ntmps - vals.toArray.size) undef).getD x undef = y := by
            rw [Array.getD_eq_getD_getElem?, Array.getElem?_append_left (by simpa using hlt)]
            simp [hy]
          rw [this]
          exact hr
        · simp
          omega
        · show aget (number 0 hs) id = none
          rw [aget_number]
          simp only [Nat.zero_le, if_true, Nat.sub_zero]
          exact List.getElem?_eq_none hid
      refine h5 E _ _ hS fun E1 a1 hS1 hev1 => ?_
      have h4' : st'.m = hs.length := h4
      have done : a1.defers = [] ∧ ∃ v_1, (results fn a1.tmps).run P E1.w = .ok v_1 E1.w ∧ ∃ x E', Ending.returned v_1 = .returned x ∧ E'.w = E1.w ∧ E'.ok ∧ (∀ id, E'.H id = os[id]?) ∧ RA E' v x ∧ EvM hs.length E E' := by
        obtain ⟨x, E', k1, k2, k3, k4, k5, k6⟩ := g4 E1 a1 hS1
        refine ⟨hS1.sf.df, x, k1, x, E', rfl, k2, k3, k4, k5, hev1.trans (h4' ▸ k6)⟩
      cases e with
      | normal => exact done
      | ret => exact done
      | exit j => exact (g3 ⟨j, rfl⟩).elim
  · cases hk

/-- THE PROGRAM: what the evaluator answers is what the machine does. -/
theorem run_ok (hT : TT P tt) {eqs : Nat → Bool} (hE : EqOk P tt eqs) (hM : P.follows .mixedOrders = true) (hN : ∀ (f : Nat) (fn : Func), P.funcs[f]? = some fn → (fn.name == "runtime.NumGoroutine") = false) {fuel : Nat} : ∀ d, CallSem P (run tt eqs P.funcs fuel d)
  | 0 => fun f args hs k r h => by cases h
  | d + 1 => fun f args hs k r h => by
    have ih := run_ok hT hE hM hN (fuel := fuel) d
    have hd : ∀ k', run tt eqs P.funcs fuel (d + 1) f args hs k' = match P.funcs[f]? with
      | some fn => enter { tt, eqs, call := run tt eqs P.funcs fuel d, fuel } fn args hs k'
      | none => none := fun _ => rfl
    rw [hd] at h
    split at h
    · rename_i fn hf
      obtain ⟨v, os, h1, h2, h3⟩ := enter_ok (C := { tt, eqs, call := run tt eqs P.funcs fuel d, fuel }) ⟨hT, hE, ih⟩ hM hf (fun c _ => hooked_none c) (hN f fn hf) h
      refine ⟨v, os, h1, fun k' => ?_, h3⟩
      rw [hd, hf]
      exact h2 k'
    · cases h
end
end Go.Ve

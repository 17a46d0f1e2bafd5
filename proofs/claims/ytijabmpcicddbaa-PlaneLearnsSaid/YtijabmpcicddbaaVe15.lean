/- The evaluator ("VE"): calls of the program's functions, put together; one operation of a region. -/
import Derived.Test.YtijabmpcicddbaaVe14
set_option linter.unusedVariables false
set_option linter.unusedSimpArgs false
namespace Go.Ve
section
variable {P : Program} {t : List (Nat × AV)} {h : List (Nat × AObj)} {nx : Nat} {u : Upd}

/-- the callee's state -/
theorem call_in_env {E : Env} {ps : List Nat} (hE : E.ok) (hnd : ps.Nodup) (hrd : ∀ id, id ∈ ps → E.H id = aget h id) (hsome : ∀ p, p ∈ ps → ∃ o, E.H p = some o) :
    ∃ Ec : Env, Ec.ok ∧ (∀ id, Ec.H id = (objsAt h (idx ps) ps)[id]?) ∧ Ren E Ec (idx ps) ∧ (∀ (j p : Nat), ps[j]? = some p → Ec.ι j = E.ι p ∧ ∀ o, E.H p = some o → Ec.H j = some (renObj (idx ps) o)) ∧
      (∀ b, Ec.D b ↔ (E.D b ∨ ∃ id o, E.H id = some o ∧ rw o = true ∧ id ∉ ps ∧ E.ι id = b)) ∧ Ec.w = E.w ∧ ∀ b, E.S b → Ec.S b := by
  let Ec : Env := ⟨fun j => match ps[j]? with | some p => E.ι p | none => 0, fun id => (objsAt h (idx ps) ps)[id]?, fun b => E.D b ∨ ∃ id o, E.H id = some o ∧ rw o = true ∧ id ∉ ps ∧ E.ι id = b, E.w⟩
  have hget : ∀ (j p : Nat), ps[j]? = some p → Ec.ι j = E.ι p ∧ ∀ o, E.H p = some o → Ec.H j = some (renObj (idx ps) o) := by
    intro j p hp
    refine ⟨by show (match ps[j]? with | some p => E.ι p | none => 0) = _; rw [hp], fun o ho => ?_⟩
    show (objsAt h (idx ps) ps)[j]? = _
    rw [objsAt_get, hp]
    rw [hrd p (List.mem_of_getElem? hp)] at ho
    simp [ho]
  have hinv : ∀ j o', Ec.H j = some o' → ∃ p o, ps[j]? = some p ∧ E.H p = some o ∧ o' = renObj (idx ps) o := by
    intro j o' ho
    have ho : (objsAt h (idx ps) ps)[j]? = some o' := ho
    rw [objsAt_get] at ho
    obtain ⟨p, hp, e⟩ := Option.map_eq_some_iff.1 ho
    obtain ⟨o, hpo⟩ := hsome p (List.mem_of_getElem? hp)
    have h2 := hpo
    rw [hrd p (List.mem_of_getElem? hp)] at h2
    exact ⟨p, o, hp, hpo, by rw [← e, h2]; rfl⟩
  have hS : ∀ b, E.S b → Ec.S b := by
    intro b ⟨h1, h2, h3⟩
    refine ⟨h1, fun hd => ?_, fun j o' ho hr => ?_⟩
    · rcases hd with hd | ⟨id, o, k1, k2, _, k3⟩
      · exact h2 hd
      · exact h3 id o k1 k2 k3
    · obtain ⟨p, o, k1, k2, rfl⟩ := hinv j o' ho
      rw [(hget j p k1).1]
      exact h3 p o k2 (by rw [← renObj_rw (idx ps)]; exact hr)
  have hren : Ren E Ec (idx ps) := ⟨rfl, hS, fun id j o hj ho => by
    have := idx_some hj
    exact ⟨(hget j id this).2 o ho, (hget j id this).1⟩⟩
  refine ⟨Ec, { obj := ?_, inj := ?_, out := ?_, dom := ?_, gl := hE.gl.mono hS fun _ _ => rfl }, fun _ => rfl, hren, hget, fun b => Iff.rfl, rfl, hS⟩
  · intro j o' ho
    obtain ⟨p, o, k1, k2, rfl⟩ := hinv j o' ho
    exact RO.ren hren (hget j p k1).1 (hE.obj p o k2)
  · intro i j oi oj hi hj hri hlj hij
    obtain ⟨p, o, k1, k2, rfl⟩ := hinv i oi hi
    obtain ⟨q, o2, l1, l2, rfl⟩ := hinv j oj hj
    rw [(hget i p k1).1, (hget j q l1).1]
    refine hE.inj p q o o2 k2 l2 (by rw [← renObj_rw (idx ps)]; exact hri) (by rw [← renObj_blkd (idx ps)]; exact hlj) fun e => ?_
    subst e
    have := idx_of hnd k1
    rw [idx_of hnd l1] at this
    injection this with this
    exact hij this.symm
  · intro j o' ho hr
    obtain ⟨p, o, k1, k2, rfl⟩ := hinv j o' ho
    rw [renObj_rw] at hr
    rw [(hget j p k1).1]
    rintro (hd | ⟨id, q, l1, l2, l3, l4⟩)
    · exact hE.out p o k2 hr hd
    · exact hE.inj id p q o l1 k2 l2 (rw_blkd hr) (fun e => l3 (e ▸ List.mem_of_getElem? k1)) l4
  · rintro b (hd | ⟨id, o, l1, l2, l3, rfl⟩)
    · exact hE.dom b hd
    · exact RO.lt (hE.obj id o l1) (rw_blkd l2)

theorem caps_rel {E : Env} {caps : List (Nat × Nat)} (hc : ∀ p, p ∈ caps → ∃ ro l, E.H p.1 = some (.cells ro l)) : RL (RA E) (caps.map fun p => AV.c (.ptr p.1 p.2)) (caps.map fun p => Value.pointer (some ⟨E.ι p.1, p.2, none⟩)) := by
  induction caps with
  | nil => exact .nil
  | cons p r ih =>
    obtain ⟨ro, l, ho⟩ := hc p (by simp)
    refine .cons ?_ (ih fun q hq => hc q (by simp [hq]))
    simp only [RA, RV, RC, ho]
theorem run_enter {f : FuncId} {args : Array Value} {w : World} (hf : ∃ fn, P.funcs[f]? = some fn ∧ fn.body.isNone = false ∧ (fn.name == "runtime.NumGoroutine") = false) : (callFunc f args).run P w = .ok (.enter f args) w := by
  obtain ⟨fn, h1, h2, h3⟩ := hf
  have h3' : ¬ fn.name = "runtime.NumGoroutine" := by simpa using h3
  have h2' : ¬ fn.body = none := by intro e; rw [e] at h2; cases h2
  simp [callFunc, h1, h2', h3']

/-- behind a call that only reads -/
theorem rlmap_id {α β : Type} {R R' : α → β → Prop} {l : List α} {r : List β} (h : RL R l r) (hm : ∀ a, a ∈ l → ∀ b, R a b → R' a b) : RL R' l r := by
  induction h with
  | nil => exact .nil
  | cons h1 _ ih => exact .cons (hm _ (by simp) _ h1) (ih fun a ha => hm a (by simp [ha]))
theorem plainK_ok : ∀ {k : CK} {n c : Nat} {p : PV}, plainK k n = true → c < n → ckOk (kDrop k c) p → ∃ v, p = .val v
  | k, 0, c, p, _, hc, _ => absurd hc (by omega)
  | k, n + 1, 0, p, hk, _, ho => by
    cases k with
    | int i r => obtain ⟨m, rfl⟩ := ho; exact ⟨_, rfl⟩
    | bool r => obtain ⟨m, rfl⟩ := ho; exact ⟨_, rfl⟩
    | str r => obtain ⟨m, rfl⟩ := ho; exact ⟨_, rfl⟩
    | _ => simp [plainK] at hk
  | k, n + 1, c + 1, p, hk, hc, ho => by
    rw [kDrop_succ] at ho
    refine plainK_ok (k := kTail k) (n := n) ?_ (by omega) ho
    cases k <;> simp_all [plainK, kTail]
theorem distB_ok : ∀ {l : List Nat}, distB l = true → l.Nodup
  | [], _ => List.nodup_nil
  | x :: l, h => by
    simp only [distB, Bool.and_eq_true, Bool.not_eq_true'] at h
    exact List.nodup_cons.2 ⟨fun hm => by rw [has_iff.2 hm] at h; exact absurd h.1 (by simp), distB_ok h.2⟩
theorem ansOs_get (os : List AObj) : ∀ (l : List Nat) (i : Nat), (ansOs os l)[i]? = (l[i]?).map fun j => (os[j]?).getD .dead
  | [], i => by simp [ansOs]
  | j :: r, 0 => by simp [ansOs]
  | j :: r, i + 1 => by simpa [ansOs] using ansOs_get os r i
theorem ansOs_length (os : List AObj) : ∀ (l : List Nat), (ansOs os l).length = l.length
  | [] => rfl
  | j :: r => by simp [ansOs, ansOs_length os r]
/-- nil slices that are handed over -/
theorem nil_sl {E : Env} {k : CK} {e : Nat} {f : Nat → Nat → PV} : RC E (.pv (.sl true k e 0 f)) (.slice none 0 0) :=
  ⟨fun j hj => absurd hj (Nat.not_lt_zero j), none, 0, rfl, Nat.le_refl _, rfl, fun _ => ⟨rfl, rfl⟩, fun hn => absurd hn (Nat.lt_irrefl 0)⟩
theorem nlL_rel {E : Env} : ∀ {ps : List (Nat × CK × Nat)} {l : List CV} {vs : List Value}, RL (RC E) l vs → RL (RC E) (nlL ps l) vs
  | [], l, vs, h => h
  | (i, k, e) :: r, l, vs, h => by
    unfold nlL
    split
    · rename_i hi
      refine nlL_rel (rlset h fun y hy => ?_)
      obtain ⟨y', hy', hr⟩ := h.get hi
      rw [hy] at hy'
      injection hy' with hy'
      subst hy'
      obtain ⟨rfl, _⟩ := hr
      exact nil_sl
    · exact nlL_rel h
where rlset {α β : Type} {R : α → β → Prop} {l : List α} {r : List β} (h : RL R l r) {i : Nat} {a : α} (ha : ∀ b, r[i]? = some b → R a b) : RL R (l.set i a) r := RL.set h ha
theorem nlVV_rel {E : Env} {ps : List (Nat × CK × Nat)} {x : VV} {v : Value} (h : RV E x v) : RV E (nlVV ps x) v := by
  cases x with
  | c x =>
    unfold nlVV
    dsimp only
    split
    · split
      · obtain ⟨rfl, _⟩ := h
        exact nil_sl
      · exact h
    · exact h
  | agg l => obtain ⟨cs, e, hl⟩ := h; exact ⟨cs, e, nlL_rel hl⟩
theorem nlA_rel {E : Env} {tt : Nat → Option TD} : ∀ {ts : List Nat} {l : List AV} {vs : List Value}, RL (RA E) l vs → RL (RA E) (nlA tt ts l) vs
  | [], l, vs, h => by simpa [nlA] using h
  | T :: ts, [], vs, h => by cases h; simp [nlA]; exact .nil
  | T :: ts, x :: l, _, h => by
    cases h with
    | cons h1 h2 =>
      cases x with
      | v x => exact .cons (nlVV_rel (E := E) h1) (nlA_rel h2)
      | tup y => exact .cons h1 (nlA_rel h2)
theorem objsAt_ro_get (h : List (Nat × AObj)) (ρ : Nat → Option Nat) (ps : List Nat) (j : Nat) : ((objsAt h ρ ps).map roO)[j]? = (ps[j]?).map fun p => roO (renObj ρ ((aget h p).getD .dead)) := by
  rw [List.getElem?_map, objsAt_get]
  cases ps[j]? <;> rfl
theorem roO_rw (o : AObj) : Ve.rw (roO o) = false := by cases o <;> rfl

/-- the callee's state, where all is lent -/
theorem lend_env {E : Env} {ps : List Nat} (hE : E.ok) (hnd : ps.Nodup) (hrd : ∀ id, id ∈ ps → E.H id = aget h id) (hsome : ∀ p, p ∈ ps → ∃ o, E.H p = some o) :
    ∃ Ec : Env, Ec.ok ∧ (∀ id, Ec.H id = ((objsAt h (idx ps) ps).map roO)[id]?) ∧ (∀ x y, RA E x y → RA Ec (renAV (idx ps) x) y) ∧
      (∀ b, E.D b → Ec.D b) ∧ (∀ id o, E.H id = some o → Ve.rw o = true → id ∉ ps → Ec.D (E.ι id)) ∧ Ec.w = E.w ∧ (∀ b, E.S b → Ec.S b) ∧ (∀ p o, p ∈ ps → E.H p = some o → blkd o = true → Ec.S (E.ι p)) := by
  obtain ⟨E1, g1, g2, g3, g4, g5, g6, g7⟩ := call_in_env (h := h) hE hnd hrd hsome
  let Ec : Env := ⟨E1.ι, fun id => ((objsAt h (idx ps) ps).map roO)[id]?, E1.D, E1.w⟩
  have hH : ∀ id, Ec.H id = (E1.H id).map roO := fun id => by show ((objsAt h (idx ps) ps).map roO)[id]? = _; rw [List.getElem?_map, g2]
  have hS1 : ∀ b, E1.S b → Ec.S b := fun b ⟨k1, k2, k3⟩ => ⟨k1, k2, fun id o ho hr => by
    rw [hH] at ho
    obtain ⟨q, _, rfl⟩ := Option.map_eq_some_iff.1 ho
    rw [roO_rw] at hr
    cases hr⟩
  have hSp : ∀ j o, E1.H j = some o → blkd o = true → Ec.S (E1.ι j) := by
    intro j o ho hl
    refine ⟨RO.lt (g1.obj j o ho) hl, RO.nodom g1 ho hl, fun id o' ho' hr => ?_⟩
    rw [hH] at ho'
    obtain ⟨q, _, rfl⟩ := Option.map_eq_some_iff.1 ho'
    rw [roO_rw] at hr
    cases hr
  have hev : Ev E1 Ec := {
    s := hS1
    c := fun _ _ => rfl
    i := fun _ _ _ => rfl
    h := fun id o ho => ⟨roO o, by rw [hH, ho]; rfl, by cases o <;> simp [shape, roO], fun ⟨_, _, e⟩ => by subst e; rfl⟩
    z := fun id o o' cs _ _ _ hb => ⟨cs, hb, rfl⟩ }
  refine ⟨Ec, { obj := ?_, inj := ?_, out := ?_, dom := g1.dom, gl := g1.gl.mono hev.s hev.c }, fun _ => rfl, fun x y hxy => RA.mono hev (RA.ren g3 hxy), fun b hb => (g5 b).2 (.inl hb), fun id o ho hr hid => (g5 _).2 (.inr ⟨id, o, ho, hr, hid, rfl⟩), g6, fun b hb => hS1 b (g7 b hb), ?_⟩
  · intro j o' ho
    rw [hH] at ho
    obtain ⟨o, ho1, rfl⟩ := Option.map_eq_some_iff.1 ho
    clear ho
    have hro := g1.obj j o ho1
    cases o with
    | dead => trivial
    | cells ro l =>
      obtain ⟨cs, hb, hl, _⟩ := hro
      exact ⟨cs, hb, hl.mono fun _ _ => RC.mono hev, fun _ => hSp j _ ho1 rfl⟩
    | parr ro nl k e n f =>
      refine ⟨hro.1, ?_⟩
      rcases hro.2 with hh | ⟨hnl, cs, hb, hn, hl, _⟩
      · exact .inl hh
      · exact .inr ⟨hnl, cs, hb, hn, fun j' hj c hc => let ⟨y, hy, hp⟩ := hl j' hj c hc; ⟨y, hy, RP.mono hev.s hev.c hp⟩, fun _ => hSp j _ ho1 (by subst hnl; rfl)⟩
    | mapo => trivial
  · intro i j oi oj hi hj hri
    rw [hH] at hi
    obtain ⟨q, _, rfl⟩ := Option.map_eq_some_iff.1 hi
    rw [roO_rw] at hri
    cases hri
  · intro i o ho hr
    rw [hH] at ho
    obtain ⟨q, _, rfl⟩ := Option.map_eq_some_iff.1 ho
    rw [roO_rw] at hr
    cases hr
  · intro p o hp ho hl
    obtain ⟨j, hj⟩ := List.mem_iff_getElem?.1 hp
    obtain ⟨h1, h2⟩ := g4 j p hj
    rw [← h1]
    exact hSp j _ (h2 o ho) (by rw [renObj_blkd]; exact hl)
theorem selH_some : ∀ {ps : List Nat} {id : Nat} {o : AObj}, aget (selH h ps) id = some o → id ∈ ps ∧ aget h id = some o
  | [], id, o, ho => by cases ho
  | p :: r, id, o, ho => by
    simp only [selH] at ho
    split at ho
    · rename_i q hq
      simp only [aget] at ho
      by_cases hp : id = p
      · subst hp
        rw [Nat.beq_refl, cond_true] at ho
        injection ho with ho
        subst ho
        exact ⟨by simp, hq⟩
      · rw [beq_false hp, cond_false] at ho
        obtain ⟨h1, h2⟩ := selH_some ho
        exact ⟨by simp [h1], h2⟩
    · obtain ⟨h1, h2⟩ := selH_some ho
      exact ⟨by simp [h1], h2⟩
theorem selH_in : ∀ {ps : List Nat} {id : Nat} {o : AObj}, id ∈ ps → aget h id = some o → aget (selH h ps) id = some o
  | [], id, o, hid, ho => by simp at hid
  | p :: r, id, o, hid, ho => by
    simp only [selH]
    by_cases hp : id = p
    · subst hp
      rw [ho]
      simp [aget]
    · have hr : id ∈ r := by simpa [hp] using hid
      split
      · simp only [aget]
        rw [beq_false hp, cond_false]
        exact selH_in hr ho
      · exact selH_in hr ho
theorem frzH_get (hp : List (Nat × AObj)) : ∀ (l : List (Nat × AObj)) (id : Nat), aget (frzH hp l) id = (aget l id).map (frzO hp)
  | [], id => rfl
  | (x, o) :: r, id => by
    simp only [frzH, aget]
    cases Nat.beq id x with
    | true => rfl
    | false => exact frzH_get hp r id
/-- what is lent as it stands -/
theorem freeze_env {E : Env} {hp : List (Nat × AObj)} (hE : E.ok) (hrd : ∀ id o, aget hp id = some o → E.H id = some o) :
    ∃ Ef : Env, Ef.ok ∧ Ef.w = E.w ∧ Ef.D = E.D ∧ Ef.ι = E.ι ∧ (∀ id, Ef.H id = match aget hp id with | some o => some (frzO hp o) | none => E.H id) ∧ (∀ x y, RA E x y → RA Ef (frzAV hp x) y) ∧ (∀ b, E.S b → Ef.S b) ∧ (∀ id o, aget hp id = some o → blkd o = true → Ef.S (E.ι id)) := by
  let Ef : Env := ⟨E.ι, fun id => match aget hp id with | some o => some (frzO hp o) | none => E.H id, E.D, E.w⟩
  have hin : ∀ id o, aget hp id = some o → Ef.H id = some (frzO hp o) := fun id o h => by show (match aget hp id with | some o => some (frzO hp o) | none => E.H id) = _; rw [h]
  have hout : ∀ id, aget hp id = none → Ef.H id = E.H id := fun id h => by show (match aget hp id with | some o => some (frzO hp o) | none => E.H id) = _; rw [h]
  have hrwf : ∀ o, Ve.rw (frzO hp o) = false := fun o => by cases o <;> rfl
  have hrw : ∀ id o, Ef.H id = some o → Ve.rw o = true → aget hp id = none ∧ E.H id = some o := fun id o ho hr => by
    cases hg : aget hp id with
    | none => exact ⟨rfl, by rw [← hout id hg]; exact ho⟩
    | some q =>
      rw [hin id q hg] at ho
      injection ho with ho
      subst ho
      rw [hrwf] at hr
      cases hr
  have hS : ∀ b, E.S b → Ef.S b := fun b ⟨h1, h2, h3⟩ => ⟨h1, h2, fun id o ho hr => h3 id o (hrw id o ho hr).2 hr⟩
  have hSp : ∀ id o, aget hp id = some o → blkd o = true → Ef.S (E.ι id) := by
    intro id o hg hb
    have ho := hrd id o hg
    refine ⟨RO.lt (hE.obj id o ho) hb, RO.nodom hE ho hb, fun j oj hj hr => ?_⟩
    obtain ⟨h1, h2⟩ := hrw j oj hj hr
    exact hE.inj j id oj o h2 ho hr hb fun e => by subst e; rw [hg] at h1; cases h1
  have hev : Ev E Ef := {
    s := hS
    c := fun _ _ => rfl
    i := fun _ _ _ => rfl
    h := fun id o ho => by
      cases hg : aget hp id with
      | none => exact ⟨o, by rw [hout id hg, ho], by cases o <;> simp [shape], fun ⟨_, _, e⟩ => by subst e; rfl⟩
      | some q =>
        have := hrd id q hg
        rw [ho] at this
        injection this with this
        subst this
        exact ⟨_, hin id o hg, by cases o <;> simp [shape, frzO], fun ⟨_, _, e⟩ => by subst e; rfl⟩
    z := fun id o o' cs _ _ _ hb => ⟨cs, hb, rfl⟩ }
  have hparr : ∀ id ro nl k e n f, aget hp id = some (.parr ro nl k e n f) → Ef.H id = some (.parr true nl k e n f) ∧ RO Ef id (.parr true nl k e n f) := by
    intro id ro nl k e n f hg
    have ho := hrd id _ hg
    refine ⟨hin id _ hg, (hE.obj id _ ho).1, ?_⟩
    rcases (hE.obj id _ ho).2 with hh | ⟨hnl, cs, hb, hn, hl, _⟩
    · exact .inl hh
    · exact .inr ⟨hnl, cs, hb, hn, fun j hj c hc => let ⟨y, hy, hr⟩ := hl j hj c hc; ⟨y, hy, RP.mono hev.s hev.c hr⟩, fun _ => hSp id _ hg (by subst hnl; rfl)⟩
  have hrc : ∀ c v, RC E c v → RC Ef (frzC hp c) v := by
    intro c v hc
    have hc' := RC.mono hev hc
    unfold frzC
    split
    · rename_i id
      split
      · rename_i p _ _ hf
        simp only [frz] at hf
        split at hf
        · rename_i ro nl k e n f hg
          simp only [Option.some.injEq, Prod.mk.injEq] at hf
          obtain ⟨rfl, _⟩ := hf
          obtain ⟨h1, h2⟩ := hparr id ro nl k e n f hg
          simp only [RC, h1] at hc'
          exact OwnV.sl h2 hc'
        · cases hf
      · exact hc'
    · rename_i id m
      split
      · rename_i p _ _ hf
        simp only [frz] at hf
        split at hf
        · rename_i ro nl k e n f hg
          simp only [Option.some.injEq, Prod.mk.injEq] at hf
          obtain ⟨rfl, _⟩ := hf
          obtain ⟨h1, h2⟩ := hparr id ro nl k e n f hg
          simp only [RC, h1] at hc'
          exact OwnV.sl h2 hc'
        · cases hf
      · exact hc'
    · rename_i id lo m
      split
      · rename_i p _ _ hf
        simp only [frz] at hf
        split at hf
        · rename_i ro nl k e n f hg
          simp only [Option.some.injEq, Prod.mk.injEq] at hf
          obtain ⟨rfl, _⟩ := hf
          obtain ⟨h1, h2⟩ := hparr id ro nl k e n f hg
          exact sub_sl h2 h1 hc'
        · cases hf
      · exact hc'
    · exact hc'
  have hrv : ∀ x y, RV E x y → RV Ef (frzVV hp x) y := by
    intro x y hx
    cases x with
    | c x => exact hrc x y hx
    | agg l => obtain ⟨cs, e, hl⟩ := hx; exact ⟨cs, e, by simpa using hl.map (R' := RC Ef) (f := frzC hp) (g := _root_.id) fun a b hab => hrc a b hab⟩
  refine ⟨Ef, { obj := fun id o ho => ?_, inj := fun i j oi oj hi hj hri hbj hij => ?_, out := fun i o ho hr => ?_, dom := hE.dom, gl := hE.gl.mono hS fun _ _ => rfl }, rfl, rfl, rfl, fun _ => rfl, fun x y hx => ?_, hS, hSp⟩
  · cases hg : aget hp id with
    | none =>
      rw [hout id hg] at ho
      exact RO.mono hev (hE.obj id o ho) ho fun _ => rfl
    | some q =>
      rw [hin id q hg] at ho
      injection ho with ho
      subst ho
      cases q with
      | dead => trivial
      | mapo => trivial
      | parr ro nl k e n f => exact (hparr id ro nl k e n f hg).2
      | cells ro l =>
        obtain ⟨cs, hb, hl, _⟩ := hE.obj id _ (hrd id _ hg)
        exact ⟨cs, hb, by simpa using hl.map (R' := RC Ef) (f := frzC hp) (g := _root_.id) fun a b hab => hrc a b hab, fun _ => hSp id _ hg rfl⟩
  · obtain ⟨h1, h2⟩ := hrw i oi hi hri
    cases hg : aget hp j with
    | none =>
      rw [hout j hg] at hj
      exact hE.inj i j oi oj h2 hj hri hbj hij
    | some q =>
      rw [hin j q hg] at hj
      injection hj with hj
      subst hj
      refine hE.inj i j oi q h2 (hrd j q hg) hri ?_ hij
      cases q <;> simp_all [blkd, frzO]
  · obtain ⟨h1, h2⟩ := hrw i o ho hr
    exact hE.out i o h2 hr
  · cases x with
    | v x => exact hrv x y hx
    | tup l => obtain ⟨cs, e, hl⟩ := hx; exact ⟨cs, e, by simpa using hl.map (R' := RV Ef) (f := frzVV hp) (g := _root_.id) fun a b hab => hrv a b hab⟩
/-- behind a call to which all was lent: the answer, and the new rows that it is made of -/
theorem lend_back {E Ec E' : Env} {ps : List Nat} {os : List AObj} {v : AV} {x : Value} (hE : E.ok) (hD : ∀ b, E.D b → Ec.D b) (hD2 : ∀ id o, E.H id = some o → Ve.rw o = true → id ∉ ps → Ec.D (E.ι id)) (hw : Ec.w = E.w) (hS : ∀ b, E.S b → Ec.S b) (hSp : ∀ p o, p ∈ ps → E.H p = some o → blkd o = true → Ec.S (E.ι p))
    {m : Nat} (hev : EvM m Ec E') (hE' : E'.ok) (hH' : ∀ id, E'.H id = os[id]?) (hv : RA E' v x) (hp : ansAV os v = true) (hdis : distB (avIds v) = true) (hal : ∀ i, i < (avIds v).length → E.H (nx + i) = none) :
    ∃ En : Env, En.w = E'.w ∧ After E nx { v := some (renAV (ansR nx (avIds v)) v), rd := ps, al := ansOs os (avIds v) } x En := by
  let N := avIds v
  let u : Upd := { v := some (renAV (ansR nx N) v), rd := ps, al := ansOs os N }
  have hul : u.al.length = N.length := ansOs_length os N
  let En : Env := ⟨fun id => if nx ≤ id ∧ id < nx + N.length then E'.ι (N.getD (id - nx) 0) else E.ι id, updH E.H u nx, E.D, E'.w⟩
  have hnd : N.Nodup := distB_ok hdis
  have hsz : E.w.heap.size ≤ E'.w.heap.size := by have := hev.size; rw [hw] at this; exact this
  have hc : ∀ b, Ec.S b → E'.w.heap[b]? = E.w.heap[b]? := fun b hb => by have := hev.c b hb; rw [hw] at this; exact this
  have hd : ∀ b, Ec.D b → E'.w.heap[b]? = E.w.heap[b]? := fun b hb => by have := hev.dom b hb; rw [hw] at this; exact this
  have hsd : ∀ id o, E.H id = some o → blkd o = true → E'.S (E.ι id) ∨ E'.D (E.ι id) := by
    intro id o ho hl
    by_cases hid : id ∈ ps
    · exact .inl (hev.s _ (hSp id o hid ho hl))
    · cases hr : Ve.rw o with
      | true => exact .inr (by rw [hev.D]; exact hD2 id o ho hr hid)
      | false => exact .inl (hev.s _ (hS _ ((hE.obj id o ho).s hr hl)))
  have hblk : ∀ id o, E.H id = some o → blkd o = true → E'.w.heap[E.ι id]? = E.w.heap[E.ι id]? := by
    intro id o ho hl
    by_cases hid : id ∈ ps
    · exact hc _ (hSp id o hid ho hl)
    · cases hr : Ve.rw o with
      | true => exact hd _ (hD2 id o ho hr hid)
      | false => exact hc _ (hS _ ((hE.obj id o ho).s hr hl))
  -- the ids of the answer's cells are rows
  have hcell : ∀ c : CV, ansCV os c = true → ∀ j, j ∈ cvIds c → ∃ nl k e n f, E'.H j = some (.parr false nl k e n f) ∧ plainK k e = true := by
    intro c hc j hj
    unfold ansCV at hc
    split at hc
    · simp [cvIds] at hj
    · simp only [cvIds, List.mem_singleton] at hj
      subst hj
      split at hc
      · rename_i nl k e n f ho
        exact ⟨nl, k, e, n, f, by rw [hH', ho], hc⟩
      · cases hc
    · cases hc
  have hcells : ∀ l : List CV, l.all (ansCV os) = true → ∀ j, j ∈ cvsIds l → ∃ nl k e n f, E'.H j = some (.parr false nl k e n f) ∧ plainK k e = true := by
    intro l
    induction l with
    | nil => intro _ j hj; simp [cvsIds] at hj
    | cons c l ih =>
      intro ha j hj
      simp only [List.all_cons, Bool.and_eq_true] at ha
      simp only [cvsIds, List.mem_append] at hj
      exact hj.elim (hcell c ha.1 j) (ih ha.2 j)
  have hvv : ∀ y : VV, ansVV os y = true → ∀ j, j ∈ vvIds y → ∃ nl k e n f, E'.H j = some (.parr false nl k e n f) ∧ plainK k e = true := by
    intro y hy j hj
    cases y with
    | c c => exact hcells [c] (by simpa [ansVV] using hy) j hj
    | agg l => exact hcells l hy j hj
  have hN : ∀ j, j ∈ N → ∃ nl k e n f, E'.H j = some (.parr false nl k e n f) ∧ plainK k e = true := by
    intro j hj
    cases v with
    | v y => exact hvv y hp j hj
    | tup l =>
      obtain ⟨y, hy, hj⟩ := List.mem_flatMap.1 hj
      exact hvv y (List.all_eq_true.1 hp y hy) j hj
  have hnew : ∀ i j, N[i]? = some j → ∃ nl k e n f, E'.H j = some (.parr false nl k e n f) ∧ plainK k e = true ∧ En.H (nx + i) = some (.parr false nl k e n f) ∧ En.ι (nx + i) = E'.ι j := by
    intro i j hij
    obtain ⟨nl, k, e, n, f, h1, h2⟩ := hN j (List.mem_of_getElem? hij)
    have hlt := (List.getElem?_eq_some_iff.1 hij).1
    refine ⟨nl, k, e, n, f, h1, h2, ?_, ?_⟩
    · show updH E.H u nx (nx + i) = _
      rw [updH_eq, if_pos (by rw [hul]; omega), show nx + i - nx = i by omega]
      show (ansOs os N)[i]? = _
      rw [ansOs_get, hij]
      rw [hH'] at h1
      simp [h1]
    · show (if _ then _ else _) = _
      rw [if_pos (by omega), show nx + i - nx = i by omega, List.getD_eq_getElem?_getD, hij]
      rfl
  have holdH : ∀ id, ¬ (nx ≤ id ∧ id < nx + N.length) → En.H id = E.H id := by
    intro id h
    show updH E.H u nx id = _
    rw [updH_eq, if_neg (by rw [hul]; exact h)]
    rfl
  have hιold : ∀ id, ¬ (nx ≤ id ∧ id < nx + N.length) → En.ι id = E.ι id := fun id h => if_neg h
  have hout : ∀ id o, E.H id = some o → ¬ (nx ≤ id ∧ id < nx + N.length) := by
    rintro id o ho ⟨h1, h2⟩
    have := hal (id - nx) (by show id - nx < N.length; omega)
    rw [show nx + (id - nx) = id by omega, ho] at this
    cases this
  have hcase : ∀ id o, En.H id = some o → (E.H id = some o ∧ En.ι id = E.ι id) ∨ ∃ i j nl k e n f, id = nx + i ∧ N[i]? = some j ∧ o = .parr false nl k e n f ∧ E'.H j = some o ∧ plainK k e = true ∧ En.ι id = E'.ι j := by
    intro id o ho
    by_cases h : nx ≤ id ∧ id < nx + N.length
    · obtain ⟨i, rfl⟩ : ∃ i, id = nx + i := ⟨id - nx, by omega⟩
      have hi : i < N.length := by omega
      obtain ⟨nl, k, e, n, f, h1, h2, h3, h4⟩ := hnew i N[i] (by simp [hi])
      rw [h3] at ho
      injection ho with ho
      subst ho
      exact .inr ⟨i, N[i], nl, k, e, n, f, rfl, by simp [hi], rfl, h1, h2, h4⟩
    · rw [holdH id h] at ho
      exact .inl ⟨ho, hιold id h⟩
  have hSn : ∀ b, E.S b → En.S b := by
    intro b hb
    obtain ⟨h1, h2, h3⟩ := hb
    have hb' := hev.s b (hS b ⟨h1, h2, h3⟩)
    refine ⟨Nat.lt_of_lt_of_le h1 hsz, h2, fun id o ho hr => ?_⟩
    rcases hcase id o ho with ⟨k1, k2⟩ | ⟨i, j, nl, k, e, n, f, rfl, _, rfl, k1, _, k2⟩
    · rw [k2]; exact h3 id o k1 hr
    · rw [k2]; exact hb'.2.2 j _ k1 hr
  have hevn : Ev E En := {
    s := hSn
    c := fun b hb => hc b (hS b hb)
    i := fun id o ho => hιold id (hout id o ho)
    h := fun id o ho => ⟨o, by rw [holdH id (hout id o ho), ho], by cases o <;> simp [shape], fun ⟨_, _, e⟩ => by subst e; rfl⟩
    z := fun id o o' cs ho ho' hl hb => by
      rw [holdH id (hout id o ho), ho] at ho'
      injection ho' with ho'
      subst ho'
      exact ⟨cs, Env.blk_same hb (hιold id (hout id o ho)) (hblk id o ho hl), rfl⟩ }
  have hblkn : ∀ {i j : Nat} {cs : Array Value}, En.ι (nx + i) = E'.ι j → E'.blk j cs → En.blk (nx + i) cs := fun hι ⟨T, fr, h1, h2⟩ => ⟨T, fr, by rw [hι]; exact h1, h2⟩
  have hok : En.ok := {
    obj := fun id o ho => by
      rcases hcase id o ho with ⟨k1, k2⟩ | ⟨i, j, nl, k, e, n, f, rfl, hij, rfl, k1, k2, k3⟩
      · exact RO.mono hevn (hE.obj id o k1) k1 fun hl => hblk id o k1 hl
      · obtain ⟨hk, hh⟩ := hE'.obj j _ k1
        refine ⟨hk, ?_⟩
        rcases hh with hh | ⟨hnl, cs, hb, hn, hl, _⟩
        · exact .inl hh
        · refine .inr ⟨hnl, cs, hblkn k3 hb, hn, fun j' hj' c hc' => ?_, fun e => by cases e⟩
          obtain ⟨y, hy, hr⟩ := hl j' hj' c hc'
          obtain ⟨w, hw'⟩ := plainK_ok k2 hc' (hk j' hj' c)
          rw [hw'] at hr ⊢
          exact ⟨y, hy, hr⟩
    inj := fun i j oi oj hi hj hri hlj hij => by
      rcases hcase i oi hi with ⟨k1, k2⟩ | ⟨i1, j1, nl, k, e, n, f, rfl, k0, rfl, k1, _, k2⟩
      · rcases hcase j oj hj with ⟨l1, l2⟩ | ⟨i2, j2, nl', k', e', n', f', rfl, l0, rfl, l1, _, l2⟩
        · rw [k2, l2]; exact hE.inj i j oi oj k1 l1 hri hlj hij
        · rw [k2, l2]
          have hr2 : Ve.rw (.parr false nl' k' e' n' f') = true := by cases nl' <;> simp_all [blkd, Ve.rw]
          intro e
          rcases hsd i oi k1 (rw_blkd hri) with hs | hs
          · exact hs.2.2 j2 _ l1 hr2 e.symm
          · exact hE'.out j2 _ l1 hr2 (e ▸ hs)
      · rcases hcase j oj hj with ⟨l1, l2⟩ | ⟨i2, j2, nl', k', e', n', f', rfl, l0, rfl, l1, _, l2⟩
        · rw [k2, l2]
          intro e
          rcases hsd j oj l1 hlj with hs | hs
          · exact hs.2.2 j1 _ k1 hri e
          · exact hE'.out j1 _ k1 hri (e ▸ hs)
        · rw [k2, l2]
          refine hE'.inj j1 j2 _ _ k1 l1 hri hlj fun e => ?_
          subst e
          have := (idx_of hnd k0).symm.trans (idx_of hnd l0)
          injection this with this
          exact hij (by rw [this])
    out := fun i o ho hr => by
      show ¬ E.D (En.ι i)
      rcases hcase i o ho with ⟨k1, k2⟩ | ⟨i1, j1, nl, k, e, n, f, rfl, k0, rfl, k1, _, k2⟩
      · rw [k2]; exact hE.out i o k1 hr
      · rw [k2]
        exact fun hd1 => hE'.out j1 _ k1 hr (by rw [hev.D]; exact hD _ hd1)
    dom := fun b hb => Nat.lt_of_lt_of_le (hE.dom b hb) hsz
    gl := hE.gl.mono hevn.s hevn.c }
  -- the answer
  have rcell : ∀ c y, ansCV os c = true → (∀ j, j ∈ cvIds c → j ∈ N) → RC E' c y → RC En (renCV (ansR nx N) c) y := by
    intro c y ha hm hr
    unfold ansCV at ha
    split at ha
    · exact hr
    · rename_i j
      obtain ⟨i, hi⟩ := List.mem_iff_getElem?.1 (hm j (by simp [cvIds]))
      obtain ⟨nl, k, e, n, f, h1, h2, h3, h4⟩ := hnew i j hi
      have hρ : ansR nx N j = some (nx + i) := by unfold ansR; rw [idx_of hnd hi]; rfl
      simp only [renCV, hρ]
      simp only [RC, h1] at hr
      simp only [RC, h3]
      refine ⟨hr.1, ?_⟩
      rcases hr.2 with hh | ⟨hnl, cap, cs, e1, hn, hb, hcs⟩
      · exact .inl hh
      · exact .inr ⟨hnl, cap, cs, by rw [e1, h4], hn, hblkn h4 hb, hcs⟩
    · cases ha
  have rcells : ∀ (l : List CV) (ys : List Value), l.all (ansCV os) = true → (∀ j, j ∈ cvsIds l → j ∈ N) → RL (RC E') l ys → RL (RC En) (l.map (renCV (ansR nx N))) ys := by
    intro l
    induction l with
    | nil => intro ys _ _ h; cases h; exact .nil
    | cons c l ih =>
      intro ys ha hm h
      cases h with
      | cons h1 h2 =>
        simp only [List.all_cons, Bool.and_eq_true] at ha
        exact .cons (rcell c _ ha.1 (fun j hj => hm j (by simp [cvsIds, hj])) h1) (ih _ ha.2 (fun j hj => hm j (by simp [cvsIds, hj])) h2)
  have rvv : ∀ (z : VV) (y : Value), ansVV os z = true → (∀ j, j ∈ vvIds z → j ∈ N) → RV E' z y → RV En (renVV (ansR nx N) z) y := by
    intro z y ha hm h
    cases z with
    | c c => exact rcell c y ha (fun j hj => hm j (by simp [vvIds, VV.cells, cvsIds, hj])) h
    | agg l => obtain ⟨cs, e, hl⟩ := h; exact ⟨cs, e, rcells l _ ha hm hl⟩
  have rvvs : ∀ (l : List VV) (ys : List Value), l.all (ansVV os) = true → (∀ j, j ∈ l.flatMap vvIds → j ∈ N) → RL (RV E') l ys → RL (RV En) (l.map (renVV (ansR nx N))) ys := by
    intro l
    induction l with
    | nil => intro ys _ _ h; cases h; exact .nil
    | cons c l ih =>
      intro ys ha hm h
      cases h with
      | cons h1 h2 =>
        simp only [List.all_cons, Bool.and_eq_true] at ha
        exact .cons (rvv c _ ha.1 (fun j hj => hm j (by simp [hj])) h1) (ih _ ha.2 (fun j hj => hm j (List.mem_flatMap.2 (by obtain ⟨z, hz, hj⟩ := List.mem_flatMap.1 hj; exact ⟨z, List.mem_cons_of_mem _ hz, hj⟩))) h2)
  refine ⟨En, rfl, rfl, hok, hevn, ⟨?_, ?_, ?_, hsz⟩, fun av hav => ?_, rfl, fun b hb => ?_⟩
  · have := hev.os; rw [hw] at this; exact this
  · have := hev.tape; rw [hw] at this; exact this
  · have := hev.output; rw [hw] at this; exact this
  · injection hav with hav
    subst hav
    cases v with
    | v z => exact rvv z x hp (fun j hj => hj) hv
    | tup l => obtain ⟨cs, e, hl⟩ := hv; exact ⟨cs, e, rvvs l _ hp (fun j hj => hj) hl⟩
  · exact hd b (hD b hb)

theorem sameC_eq {x y : CV} (h : sameC x y = true) : x = y := by
  unfold sameC at h
  split at h <;> first | (cases h; done) | skip
  · rw [Bool.and_eq_true] at h; rw [Nat.eq_of_beq_eq_true h.1, Nat.eq_of_beq_eq_true h.2]
  · rw [Nat.eq_of_beq_eq_true h]
  · rw [Nat.eq_of_beq_eq_true h]
  · rfl
theorem sameL_eq : ∀ {l r : List CV}, sameL l r = true → l = r
  | [], [], _ => rfl
  | [], _ :: _, h => by simp [sameL] at h
  | _ :: _, [], h => by simp [sameL] at h
  | x :: l, y :: r, h => by
    simp only [sameL, Bool.and_eq_true] at h
    rw [sameC_eq h.1, sameL_eq h.2]
theorem sameO_eq {x : Option AObj} {y : AObj} (h : sameO x y = true) : x = some y := by
  unfold sameO at h
  split at h <;> first | (cases h; done) | skip
  · rw [sameL_eq h]
  · rfl
theorem thin_keys {h : List (Nat × AObj)} : ∀ {l : List (Nat × AObj)} {x : Nat}, x ∈ keysOf (thin h l) → x ∈ keysOf l
  | [], x, hx => hx
  | p :: r, x, hx => by
    simp only [thin] at hx
    cases hs : sameO (aget h p.1) p.2 with
    | true => rw [hs, cond_true] at hx; exact List.mem_cons_of_mem _ (thin_keys hx)
    | false =>
      rw [hs, cond_false] at hx
      rcases List.mem_cons.1 hx with e | hx
      · rw [e]; exact List.mem_cons_self ..
      · exact List.mem_cons_of_mem _ (thin_keys hx)
theorem thin_fold {h : List (Nat × AObj)} : ∀ {l : List (Nat × AObj)} {H : Heap}, (keysOf l).Nodup → (∀ x, x ∈ keysOf l → H x = aget h x) → foldA H (thin h l) = foldA H l
  | [], H, _, _ => rfl
  | (x, o) :: r, H, hn, hr => by
    have hn' : x ∉ keysOf r ∧ (keysOf r).Nodup := List.nodup_cons.1 hn
    simp only [thin]
    cases hs : sameO (aget h x) o with
    | true =>
      rw [cond_true, foldA_cons]
      have hH : (fun y => if y = x then some o else H y) = H := by
        funext y
        by_cases hy : y = x
        · subst hy
          rw [if_pos rfl, hr y (List.mem_cons_self ..)]
          exact (sameO_eq hs).symm
        · rw [if_neg hy]
      rw [hH]
      exact thin_fold hn'.2 fun y hy => hr y (List.mem_cons_of_mem _ hy)
    | false =>
      rw [cond_false, foldA_cons, foldA_cons]
      exact thin_fold hn'.2 fun y hy => by
        have hne : y ≠ x := fun e => hn'.1 (e ▸ hy)
        show (if y = x then _ else H y) = _
        rw [if_neg hne]
        exact hr y (List.mem_cons_of_mem _ hy)
theorem After.thin {E : Env} {nx : Nat} {v : Option AV} {rd : List Nat} {wr : List (Nat × AObj)} {al : List AObj} {x : Value} {E' : Env} {h : List (Nat × AObj)} (ha : After E nx { v, rd, wr, al } x E') (hn : (keysOf wr).Nodup) (hr : ∀ y, y ∈ keysOf wr → E.H y = aget h y) : After E nx { v, rd, wr := thin h wr, al } x E' where
  H := by
    rw [ha.H]
    funext y
    rw [updH_eq, updH_eq]
    show (if _ then _ else foldA E.H wr y) = (if _ then _ else foldA E.H (Ve.thin h wr) y)
    rw [thin_fold hn hr]
  ok := ha.ok
  ev := ha.ev
  fr := ⟨ha.fr.os, ha.fr.tape, ha.fr.output, ha.fr.size⟩
  val := ha.val
  D := ha.D
  dom := ha.dom
theorem evalCall_ok {C : Ctx} (hC : CallSem P C.call) {c : Call} {k : Upd → Option Out} {r : Out} (hk : evalCall C t h nx c k = some r) :
    ∃ u, k u = some r ∧ (∀ k', evalCall C t h nx c k' = k' u) ∧ OpOk P (.call c) t h nx u := by
  unfold evalCall at hk ⊢
  split at hk
  · rename_i fo hcal
    split at hk
    · rename_i f caps args0 hcl hargs
      dsimp only at hk ⊢
      split at hk
      · rename_i ps hps
        obtain ⟨hnd, rr, hr1, hr2⟩ := reach_spec hps List.nodup_nil
        simp only [List.nil_append] at hr1
        subst hr1
        have hin : ∀ y, y ∈ fo :: c.args.toList → y ∈ (Op.call c).operands.toList := by
          intro y hy
          simp only [Op.operands, Call.operands, hcal]
          simpa using hy
        have hcv : ∀ {u : Upd} (E : Env) (a : Act), Ahead E a t h nx (.call c) u → ∃ cvs : List Value, a.eval fo = .func (.func f) #[] cvs.toArray ∧ RL (RA E) caps cvs := by
          intro u E a hA
          unfold callee at hcl
          split at hcl
          · simp at hcl
            obtain ⟨rfl, rfl⟩ := hcl
            exact ⟨[], rfl, .nil⟩
          · split at hcl
            · rename_i f' cps hx
              simp only [Option.some.injEq, Prod.mk.injEq] at hcl
              obtain ⟨rfl, rfl⟩ := hcl
              obtain ⟨e1, e2⟩ := opnd_in hA (hin _ (by simp)) hx
              exact ⟨_, e1, caps_rel e2⟩
            · cases hcl
        have hexec0 : ∀ (E : Env) (a : Act) (o : Oper) (cvs : List Value), o.op = .call c → a.eval fo = .func (.func f) #[] cvs.toArray → (∃ fn, P.funcs[f]? = some fn ∧ fn.body.isNone = false ∧ (fn.name == "runtime.NumGoroutine") = false) → (execOp a.eval o).run P E.w = .ok (.enter f (c.args.toList.map a.eval ++ cvs).toArray) E.w := by
          intro E a o cvs ho hfv hfn
          have : execOp a.eval o = (do let d ← resolve a.eval c o.type; invoke d.target d.args) := by
            obtain ⟨dst, op, ty, pos, after, guard⟩ := o
            simp only at ho
            subst ho
            rfl
          rw [this]
          simp only [resolve, hcal, hfv, Deferred.ofValue, invoke, Sem.run_bind, Sem.run_pure, Result.andThen_ok]
          rw [run_enter hfn]
          congr 2
          apply Array.ext'
          simp
        cases hbor : C.bor f with
        | true =>
          simp only [hbor, cond_true] at hk ⊢
          split at hk
          · rename_i qs hqs
            obtain ⟨hndq, rq, hq1, hq2⟩ := reach_spec hqs List.nodup_nil
            simp only [List.nil_append] at hq1
            subst hq1
            obtain ⟨v, os, h1, h2, h3⟩ := hC _ _ _ _ _ hk
            obtain ⟨hpl, h1⟩ := cond_some h1
            refine ⟨_, h1, fun k' => ?_, ?_⟩
            · rw [h2]
              simp only [hpl, cond_true]
            · rw [Bool.and_eq_true] at hpl
              intro o ho E a hA K Q hK
              have hE := hA.ok
              have hhp : ∀ id o, aget (selH h ps) id = some o → E.H id = some o := fun id o hg => by
                obtain ⟨g1, g2⟩ := selH_some hg
                exact (hA.rd id g1).trans g2
              obtain ⟨Ef, f1, f2, f3, f4, f5, f6, f7, f8⟩ := freeze_env hE hhp
              have hrdq : ∀ id, id ∈ qs → Ef.H id = aget (frzH (selH h ps) (selH h ps)) id := fun id hid => by
                obtain ⟨q, hq⟩ := hq2 id hid
                rw [hq, f5]
                rw [frzH_get] at hq
                obtain ⟨q', hq', rfl⟩ := Option.map_eq_some_iff.1 hq
                rw [hq']
              have hsome : ∀ p, p ∈ qs → ∃ o, Ef.H p = some o := fun p hp => by
                obtain ⟨o, ho⟩ := hq2 p hp
                exact ⟨o, (hrdq p hp).trans ho⟩
              obtain ⟨Ec, g1, g2, g3, g4, g5, g6, g7, g8⟩ := lend_env (h := frzH (selH h ps) (selH h ps)) f1 hndq hrdq hsome
              have hav : RL (RA E) args0 (c.args.toList.map a.eval) := opvs_rel hargs (fun y hy => hin y (by simp [hy])) hA
              obtain ⟨cvs, hfv, hcv⟩ := hcv E a hA
              have hvals0 := (hav.append hcv).map (R' := RA Ef) (f := frzAV (selH h ps)) (g := _root_.id) fun _ _ hr => f6 _ _ hr
              rw [List.map_id] at hvals0
              have hvals := (nlA_rel (tt := C.tt) (ts := c.argTypes.toList) hvals0).map (R' := RA Ec) (f := renAV (idx qs)) (g := _root_.id) fun _ _ hr => g3 _ _ hr
              rw [List.map_id] at hvals
              have hcalls := h3.run Ec _ g1 g2 hvals
              rw [g6, f2] at hcalls
              unfold Oper.wp
              rw [hexec0 E a o cvs ho hfv h3.fn]
              refine Calls.mono hcalls fun e w' he => ?_
              obtain ⟨x, E', rfl, rfl, k1, k2, k3, k4⟩ := he
              obtain ⟨En, e1, e2⟩ := lend_back (nx := nx) (ps := ps) hE (fun b hb => g4 b (by rw [f3]; exact hb)) (fun id o hid hr hn => by
                have hg : aget (selH h ps) id = none := by
                  cases hg : aget (selH h ps) id with
                  | none => rfl
                  | some q => exact absurd (selH_some hg).1 hn
                have := g5 id o (by rw [f5, hg]; exact hid) hr (fun hq => by
                  obtain ⟨q, hq⟩ := hq2 id hq
                  rw [frzH_get, hg] at hq
                  cases hq)
                rwa [f4] at this) (g6.trans f2) (fun b hb => g7 b (f7 b hb)) (fun p o hp ho hb => g7 _ (f8 p o (selH_in hp (by rw [← hA.rd p hp]; exact ho)) hb)) k4 k1 k2 k3 hpl.1 hpl.2 (fun i hi => hA.al i (by show i < (ansOs os (avIds v)).length; rw [ansOs_length]; exact hi))
              rw [← e1]
              exact hK x En e2
          · cases hk
        | false =>
        simp only [hbor, cond_false] at hk ⊢
        obtain ⟨v, os, h1, h2, h3⟩ := hC _ _ _ _ _ hk
        obtain ⟨hle, h1⟩ := cond_some h1
        have hlen := Nat.le_of_ble_eq_true hle
        refine ⟨_, h1, fun k' => ?_, ?_⟩
        · rw [h2]
          simp only [hle, cond_true]
        · intro o ho E a hA K Q hK
          have hE := hA.ok
          have hsome : ∀ p, p ∈ ps → ∃ o, E.H p = some o := fun p hp => by
            obtain ⟨o, ho⟩ := hr2 p hp
            exact ⟨o, (hA.rd p hp).trans ho⟩
          have hal : ∀ i, i < os.length - ps.length → E.H (nx + i) = none := fun i hi => hA.al i (by simpa using hi)
          obtain ⟨Ec, g1, g2, g3, g4, g5, g6, g7⟩ := call_in_env (h := h) hE hnd hA.rd hsome
          -- what is called
          have hin : ∀ y, y ∈ fo :: c.args.toList → y ∈ (Op.call c).operands.toList := by
            intro y hy
            simp only [Op.operands, Call.operands, hcal]
            simpa using hy
          have hav : RL (RA E) args0 (c.args.toList.map a.eval) := opvs_rel hargs (fun y hy => hin y (by simp [hy])) hA
          have hfv : ∃ cvs : List Value, a.eval fo = .func (.func f) #[] cvs.toArray ∧ RL (RA E) caps cvs := by
            unfold callee at hcl
            split at hcl
            · simp at hcl
              obtain ⟨rfl, rfl⟩ := hcl
              exact ⟨[], rfl, .nil⟩
            · split at hcl
              · rename_i f' cps hx
                simp only [Option.some.injEq, Prod.mk.injEq] at hcl
                obtain ⟨rfl, rfl⟩ := hcl
                obtain ⟨e1, e2⟩ := opnd_in hA (hin _ (by simp)) hx
                exact ⟨_, e1, caps_rel e2⟩
              · cases hcl
          obtain ⟨cvs, hfv, hcv⟩ := hfv
          have hvals := (hav.append hcv).map (R' := RA Ec) (f := renAV (idx ps)) (g := _root_.id) fun _ _ hr => RA.ren g3 hr
          rw [List.map_id] at hvals
          have hcalls := h3.run Ec _ g1 g2 hvals
          rw [g6] at hcalls
          have hexec : (execOp a.eval o).run P E.w = .ok (.enter f (c.args.toList.map a.eval ++ cvs).toArray) E.w := by
            have : execOp a.eval o = (do let d ← resolve a.eval c o.type; invoke d.target d.args) := by
              obtain ⟨dst, op, ty, pos, after, guard⟩ := o
              simp only at ho
              subst ho
              rfl
            rw [this]
            simp only [resolve, hcal, hfv, Deferred.ofValue, invoke, Sem.run_bind, Sem.run_pure, Result.andThen_ok]
            rw [run_enter h3.fn]
            congr 2
            apply Array.ext'
            simp
          unfold Oper.wp
          rw [hexec]
          refine Calls.mono hcalls fun e w' he => ?_
          obtain ⟨x, E', rfl, rfl, k1, k2, k3, k4⟩ := he
          rw [objsAt_length] at k4
          obtain ⟨En, e1, e2⟩ := call_back (nx := nx) hE hnd hlen hsome hal g4 g5 g6 g7 k1 k2 k3 k4
          rw [← e1]
          exact hK x En (e2.thin (by rw [zip_keys _ _ _ hlen]; exact hnd) (fun y hy => hA.rd y (by rw [zip_keys _ _ _ hlen] at hy; exact hy)))
      · cases hk
    · cases hk
  · cases hk
end
end Go.Ve

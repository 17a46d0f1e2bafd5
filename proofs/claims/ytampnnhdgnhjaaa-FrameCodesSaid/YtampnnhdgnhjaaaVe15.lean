/- The evaluator ("VE"): calls of the program's functions, put together; one operation of a region. -/
import Derived.Test.YtampnnhdgnhjaaaVe14
set_option linter.unusedVariables false
set_option linter.unusedSimpArgs false
namespace Go.Ve
section
variable {P : Program} {t : List (Nat × AV)} {h : List (Nat × AObj)} {nx : Nat} {u : Upd}

/-- the callee's state -/
theorem call_in_env {E : Env} {ps : List Nat} (hE : E.ok) (hnd : ps.Nodup) (hrd : ∀ id, id ∈ ps → E.H id = aget h id) (hsome : ∀ p, p ∈ ps → ∃ o, E.H p = some o) :
    ∃ Ec : Env, Ec.ok ∧ (∀ id, Ec.H id = (objsAt h (idx ps) ps)[id]?) ∧ Ren E Ec (idx ps) ∧ (∀ (j p : Nat), ps[j]? = some p → Ec.ι j = E.ι p ∧ ∀ o, E.H p = some o → Ec.H j = some (renObj (idx ps) o)) ∧
      (∀ b, Ec.D b ↔ (E.D b ∨ ∃ id o, E.H id = some o ∧ rw o = true ∧ id ∉ ps ∧ E.ι id = b)) ∧ Ec.w = E.w ∧ ∀ b, E.S b → Ec.S b := by
  let Ec : Env := ⟨fun j => match ps[j]? with | some p => E.ι p | none => 0, fun id => (objsAt h (idx ps) ps)[id]?, fun b => E.D b ∨ ∃ id o, E.H id = some o ∧ rw o = true ∧ id ∉ ps ∧ E.ι id = b, E.w⟩
  have hget : ∀ (j p : Nat), ps[j]? = some p → Ec.ι j = E.ι p ∧ ∀ o, E.H p = some o → Ec.H j = some (renObj (idx ps) o) := by
    intro j p hp
    refine ⟨by show (match ps[j]? with | some p => E.ι p | none => 0) = _; rw [hp], fun o ho => ?_⟩
    show (objsAt h (idx ps) ps)[j]? = _
    rw [objsAt_get, hp]
    rw [hrd p (List.mem_of_getElem? hp)] at ho
    simp [ho]
  have hinv : ∀ j o', Ec.H j = some o' → ∃ p o, ps[j]? = some p ∧ E.H p = some o ∧ o' = renObj (idx ps) o := by
    intro j o' ho
    have ho : (objsAt h (idx ps) ps)[j]? = some o' := ho
    rw [objsAt_get] at ho
    obtain ⟨p, hp, e⟩ := Option.map_eq_some_iff.1 ho
    obtain ⟨o, hpo⟩ := hsome p (List.mem_of_getElem? hp)
    have h2 := hpo
    rw [hrd p (List.mem_of_getElem? hp)] at h2
    exact ⟨p, o, hp, hpo, by rw [← e, h2]; rfl⟩
  have hS : ∀ b, E.S b → Ec.S b := by
    intro b ⟨h1, h2, h3⟩
    refine ⟨h1, fun hd => ?_, fun j o' ho hr => ?_⟩
    · rcases hd with hd | ⟨id, o, k1, k2, _, k3⟩
      · exact h2 hd
      · exact h3 id o k1 k2 k3
    · obtain ⟨p, o, k1, k2, rfl⟩ := hinv j o' ho
      rw [(hget j p k1).1]
      exact h3 p o k2 (by rw [← renObj_rw (idx ps)]; exact hr)
  have hren : Ren E Ec (idx ps) := ⟨rfl, hS, fun id j o hj ho => by
    have := idx_some hj
    exact ⟨(hget j id this).2 o ho, (hget j id this).1⟩⟩
  refine ⟨Ec, { obj := ?_, inj := ?_, out := ?_, dom := ?_ }, fun _ => rfl, hren, hget, fun b => Iff.rfl, rfl, hS⟩
  · intro j o' ho
    obtain ⟨p, o, k1, k2, rfl⟩ := hinv j o' ho
    exact RO.ren hren (hget j p k1).1 (hE.obj p o k2)
  · intro i j oi oj hi hj hri hlj hij
    obtain ⟨p, o, k1, k2, rfl⟩ := hinv i oi hi
    obtain ⟨q, o2, l1, l2, rfl⟩ := hinv j oj hj
    rw [(hget i p k1).1, (hget j q l1).1]
    refine hE.inj p q o o2 k2 l2 (by rw [← renObj_rw (idx ps)]; exact hri) (by rw [← renObj_live (idx ps)]; exact hlj) fun e => ?_
    subst e
    have := idx_of hnd k1
    rw [idx_of hnd l1] at this
    injection this with this
    exact hij this.symm
  · intro j o' ho hr
    obtain ⟨p, o, k1, k2, rfl⟩ := hinv j o' ho
    rw [renObj_rw] at hr
    rw [(hget j p k1).1]
    rintro (hd | ⟨id, q, l1, l2, l3, l4⟩)
    · exact hE.out p o k2 hr hd
    · exact hE.inj id p q o l1 k2 l2 (rw_live hr) (fun e => l3 (e ▸ List.mem_of_getElem? k1)) l4
  · rintro b (hd | ⟨id, o, l1, l2, l3, rfl⟩)
    · exact hE.dom b hd
    · obtain ⟨cs, hb⟩ := RO.blk (hE.obj id o l1) (rw_live l2)
      exact Env.blk_lt hb

theorem caps_rel {E : Env} {caps : List (Nat × Nat)} (hc : ∀ p, p ∈ caps → ∃ ro l, E.H p.1 = some (.cells ro l)) : RL (RA E) (caps.map fun p => AV.c (.ptr p.1 p.2)) (caps.map fun p => Value.pointer (some ⟨E.ι p.1, p.2, none⟩)) := by
  induction caps with
  | nil => exact .nil
  | cons p r ih =>
    obtain ⟨ro, l, ho⟩ := hc p (by simp)
    refine .cons ?_ (ih fun q hq => hc q (by simp [hq]))
    simp only [RA, RV, RC, ho]
theorem run_enter {f : FuncId} {args : Array Value} {w : World} (hf : ∃ fn, P.funcs[f]? = some fn ∧ fn.body.isNone = false ∧ (fn.name == "runtime.NumGoroutine") = false) : (callFunc f args).run P w = .ok (.enter f args) w := by
  obtain ⟨fn, h1, h2, h3⟩ := hf
  have h3' : ¬ fn.name = "runtime.NumGoroutine" := by simpa using h3
  have h2' : ¬ fn.body = none := by intro e; rw [e] at h2; cases h2
  simp [callFunc, h1, h2', h3']

/-- behind a call that only reads -/
theorem rlmap_id {α β : Type} {R R' : α → β → Prop} {l : List α} {r : List β} (h : RL R l r) (hm : ∀ a, a ∈ l → ∀ b, R a b → R' a b) : RL R' l r := by
  induction h with
  | nil => exact .nil
  | cons h1 _ ih => exact .cons (hm _ (by simp) _ h1) (ih fun a ha => hm a (by simp [ha]))
theorem plainCV_rel {E E' : Env} {x : CV} (hp : plainCV x = true) {v : Value} (h : RC E x v) : RC E' x v := by
  cases x with
  | pv p =>
    cases p with
    | val y => exact h
    | sl => simp [plainCV] at hp
  | _ => simp [plainCV] at hp
theorem plainVV_rel {E E' : Env} {x : VV} (hp : plainVV x = true) {v : Value} (h : RV E x v) : RV E' x v := by
  cases x with
  | c x => exact plainCV_rel hp h
  | agg l => obtain ⟨cs, e, hl⟩ := h; exact ⟨cs, e, rlmap_id hl fun a ha b hb => plainCV_rel (List.all_eq_true.1 hp a ha) hb⟩
theorem plainAV_rel {E E' : Env} {x : AV} (hp : plainAV x = true) {v : Value} (h : RA E x v) : RA E' x v := by
  cases x with
  | v x => exact plainVV_rel hp h
  | tup l => obtain ⟨cs, e, hl⟩ := h; exact ⟨cs, e, rlmap_id hl fun a ha b hb => plainVV_rel (List.all_eq_true.1 hp a ha) hb⟩
theorem objsAt_ro_get (h : List (Nat × AObj)) (ρ : Nat → Option Nat) (ps : List Nat) (j : Nat) : ((objsAt h ρ ps).map roO)[j]? = (ps[j]?).map fun p => roO (renObj ρ ((aget h p).getD .dead)) := by
  rw [List.getElem?_map, objsAt_get]
  cases ps[j]? <;> rfl
theorem roO_live (o : AObj) : live (roO o) = live o := by cases o <;> rfl
theorem roO_rw (o : AObj) : Ve.rw (roO o) = false := by cases o <;> rfl

/-- the callee's state, where all is lent -/
theorem lend_env {E : Env} {ps : List Nat} (hE : E.ok) (hnd : ps.Nodup) (hrd : ∀ id, id ∈ ps → E.H id = aget h id) (hsome : ∀ p, p ∈ ps → ∃ o, E.H p = some o) :
    ∃ Ec : Env, Ec.ok ∧ (∀ id, Ec.H id = ((objsAt h (idx ps) ps).map roO)[id]?) ∧ (∀ x y, RA E x y → RA Ec (renAV (idx ps) x) y) ∧
      (∀ b, E.D b → Ec.D b) ∧ (∀ id o, E.H id = some o → Ve.rw o = true → id ∉ ps → Ec.D (E.ι id)) ∧ Ec.w = E.w ∧ (∀ b, E.S b → Ec.S b) ∧ (∀ p o, p ∈ ps → E.H p = some o → live o = true → Ec.S (E.ι p)) := by
  obtain ⟨E1, g1, g2, g3, g4, g5, g6, g7⟩ := call_in_env (h := h) hE hnd hrd hsome
  let Ec : Env := ⟨E1.ι, fun id => ((objsAt h (idx ps) ps).map roO)[id]?, E1.D, E1.w⟩
  have hH : ∀ id, Ec.H id = (E1.H id).map roO := fun id => by show ((objsAt h (idx ps) ps).map roO)[id]? = _; rw [List.getElem?_map, g2]
  have hS1 : ∀ b, E1.S b → Ec.S b := fun b ⟨k1, k2, k3⟩ => ⟨k1, k2, fun id o ho hr => by
    rw [hH] at ho
    obtain ⟨q, _, rfl⟩ := Option.map_eq_some_iff.1 ho
    rw [roO_rw] at hr
    cases hr⟩
  have hSp : ∀ j o, E1.H j = some o → live o = true → Ec.S (E1.ι j) := by
    intro j o ho hl
    obtain ⟨cs, hb⟩ := RO.blk (g1.obj j o ho) hl
    refine ⟨Env.blk_lt hb, RO.nodom g1 ho hl, fun id o' ho' hr => ?_⟩
    rw [hH] at ho'
    obtain ⟨q, _, rfl⟩ := Option.map_eq_some_iff.1 ho'
    rw [roO_rw] at hr
    cases hr
  have hev : Ev E1 Ec := {
    s := hS1
    c := fun _ _ => rfl
    i := fun _ _ _ => rfl
    h := fun id o ho => ⟨roO o, by rw [hH, ho]; rfl, by cases o <;> simp [shape, roO], fun ⟨_, _, e⟩ => by subst e; rfl⟩
    z := fun id o o' cs _ _ _ hb => ⟨cs, hb, rfl⟩ }
  refine ⟨Ec, { obj := ?_, inj := ?_, out := ?_, dom := g1.dom }, fun _ => rfl, fun x y hxy => RA.mono hev (RA.ren g3 hxy), fun b hb => (g5 b).2 (.inl hb), fun id o ho hr hid => (g5 _).2 (.inr ⟨id, o, ho, hr, hid, rfl⟩), g6, fun b hb => hS1 b (g7 b hb), ?_⟩
  · intro j o' ho
    rw [hH] at ho
    obtain ⟨o, ho1, rfl⟩ := Option.map_eq_some_iff.1 ho
    clear ho
    have hro := g1.obj j o ho1
    cases o with
    | dead => trivial
    | cells ro l =>
      obtain ⟨cs, hb, hl, _⟩ := hro
      exact ⟨cs, hb, hl.mono fun _ _ => RC.mono hev, fun _ => hSp j _ ho1 rfl⟩
    | parr ro k e n f =>
      obtain ⟨cs, hb, hn, hk, hl, _⟩ := hro
      exact ⟨cs, hb, hn, hk, fun j' hj c hc => let ⟨y, hy, hp⟩ := hl j' hj c hc; ⟨y, hy, RP.mono hev.s hev.c hp⟩, fun _ => hSp j _ ho1 rfl⟩
  · intro i j oi oj hi hj hri
    rw [hH] at hi
    obtain ⟨q, _, rfl⟩ := Option.map_eq_some_iff.1 hi
    rw [roO_rw] at hri
    cases hri
  · intro i o ho hr
    rw [hH] at ho
    obtain ⟨q, _, rfl⟩ := Option.map_eq_some_iff.1 ho
    rw [roO_rw] at hr
    cases hr
  · intro p o hp ho hl
    obtain ⟨j, hj⟩ := List.mem_iff_getElem?.1 hp
    obtain ⟨h1, h2⟩ := g4 j p hj
    rw [← h1]
    exact hSp j _ (h2 o ho) (by rw [renObj_live]; exact hl)
theorem lend_back {E Ec E' : Env} {ps : List Nat} {v : AV} {x : Value} (hE : E.ok) (hD : ∀ b, E.D b → Ec.D b) (hD2 : ∀ id o, E.H id = some o → Ve.rw o = true → id ∉ ps → Ec.D (E.ι id)) (hw : Ec.w = E.w) (hS : ∀ b, E.S b → Ec.S b) (hSp : ∀ p o, p ∈ ps → E.H p = some o → live o = true → Ec.S (E.ι p))
    {m : Nat} (hev : EvM m Ec E') (hv : RA E' v x) (hp : plainAV v = true) : ∃ En : Env, En.w = E'.w ∧ After E nx { v := some v, rd := ps } x En := by
  let En : Env := ⟨E.ι, E.H, E.D, E'.w⟩
  have hsz : E.w.heap.size ≤ E'.w.heap.size := by have := hev.size; rw [hw] at this; exact this
  have hc : ∀ b, Ec.S b → E'.w.heap[b]? = E.w.heap[b]? := fun b hb => by have := hev.c b hb; rw [hw] at this; exact this
  have hd : ∀ b, Ec.D b → E'.w.heap[b]? = E.w.heap[b]? := fun b hb => by have := hev.dom b hb; rw [hw] at this; exact this
  have hblk : ∀ id o, E.H id = some o → live o = true → E'.w.heap[E.ι id]? = E.w.heap[E.ι id]? := by
    intro id o ho hl
    by_cases hid : id ∈ ps
    · exact hc _ (hSp id o hid ho hl)
    · cases hr : Ve.rw o with
      | true => exact hd _ (hD2 id o ho hr hid)
      | false =>
        refine hc _ (hS _ ?_)
        have hro := hE.obj id o ho
        cases o with
        | dead => simp [live] at hl
        | cells ro l => cases ro with
          | false => simp [Ve.rw] at hr
          | true => obtain ⟨_, _, _, hs⟩ := hro; exact hs rfl
        | parr ro k e n f => cases ro with
          | false => simp [Ve.rw] at hr
          | true => obtain ⟨_, _, _, _, _, hs⟩ := hro; exact hs rfl
  have hevn : Ev E En := {
    s := fun b ⟨h1, h2, h3⟩ => ⟨Nat.lt_of_lt_of_le h1 hsz, h2, h3⟩
    c := fun b hb => hc b (hS b hb)
    i := fun _ _ _ => rfl
    h := fun id o ho => ⟨o, ho, by cases o <;> simp [shape], fun ⟨_, _, e⟩ => by subst e; rfl⟩
    z := fun id o o' cs ho ho' hl hb => by
      have ho' : E.H id = some o' := ho'
      rw [ho] at ho'
      injection ho' with ho'
      subst ho'
      exact ⟨cs, Env.blk_same hb rfl (hblk id o ho hl), rfl⟩ }
  have hok : En.ok := {
    obj := fun id o ho => by
      cases hl : live o with
      | true => exact RO.mono hevn (hE.obj id o ho) ho (hblk id o ho hl)
      | false => cases o <;> simp_all [live, RO]
    inj := hE.inj
    out := hE.out
    dom := fun b hb => Nat.lt_of_lt_of_le (hE.dom b hb) hsz }
  refine ⟨En, rfl, ?_, hok, hevn, ⟨?_, ?_, ?_, hsz, fun b hb hne => ?_⟩, fun av hav => ?_, rfl, fun b hb => ?_⟩
  · funext id
    show E.H id = updH E.H _ nx id
    rw [updH_eq, if_neg (by simp)]
    rfl
  · have := hev.os; rw [hw] at this; exact this
  · have := hev.tape; rw [hw] at this; exact this
  · have := hev.output; rw [hw] at this; exact this
  · show E'.w.heap[b]? = _
    by_cases hd1 : E.D b
    · exact hd b (hD b hd1)
    · by_cases hrw : ∃ id o, E.H id = some o ∧ Ve.rw o = true ∧ E.ι id = b
      · obtain ⟨id, o, h1, h2, rfl⟩ := hrw
        exact hblk id o h1 (rw_live h2)
      · exact hc b (hS b ⟨hb, hd1, fun id o h1 h2 e => hrw ⟨id, o, h1, h2, e⟩⟩)
  · injection hav with hav
    subst hav
    exact plainAV_rel hp hv
  · exact hd b (hD b hb)

theorem evalCall_ok {C : Ctx} (hC : CallSem P C.call) {c : Call} {k : Upd → Option Out} {r : Out} (hk : evalCall C t h nx c k = some r) :
    ∃ u, k u = some r ∧ (∀ k', evalCall C t h nx c k' = k' u) ∧ OpOk P (.call c) t h nx u := by
  unfold evalCall at hk ⊢
  split at hk
  · rename_i fo hcal
    split at hk
    · rename_i f caps args0 hcl hargs
      dsimp only at hk ⊢
      split at hk
      · rename_i ps hps
        obtain ⟨hnd, rr, hr1, hr2⟩ := reach_spec hps List.nodup_nil
        simp only [List.nil_append] at hr1
        subst hr1
        have hin : ∀ y, y ∈ fo :: c.args.toList → y ∈ (Op.call c).operands.toList := by
          intro y hy
          simp only [Op.operands, Call.operands, hcal]
          simpa using hy
        have hcv : ∀ {u : Upd} (E : Env) (a : Act), Ahead E a t h nx (.call c) u → ∃ cvs : List Value, a.eval fo = .func (.func f) #[] cvs.toArray ∧ RL (RA E) caps cvs := by
          intro u E a hA
          unfold callee at hcl
          split at hcl
          · simp at hcl
            obtain ⟨rfl, rfl⟩ := hcl
            exact ⟨[], rfl, .nil⟩
          · split at hcl
            · rename_i f' cps hx
              simp only [Option.some.injEq, Prod.mk.injEq] at hcl
              obtain ⟨rfl, rfl⟩ := hcl
              obtain ⟨e1, e2⟩ := opnd_in hA (hin _ (by simp)) hx
              exact ⟨_, e1, caps_rel e2⟩
            · cases hcl
        have hexec0 : ∀ (E : Env) (a : Act) (o : Oper) (cvs : List Value), o.op = .call c → a.eval fo = .func (.func f) #[] cvs.toArray → (∃ fn, P.funcs[f]? = some fn ∧ fn.body.isNone = false ∧ (fn.name == "runtime.NumGoroutine") = false) → (execOp a.eval o).run P E.w = .ok (.enter f (c.args.toList.map a.eval ++ cvs).toArray) E.w := by
          intro E a o cvs ho hfv hfn
          have : execOp a.eval o = (do let d ← resolve a.eval c o.type; invoke d.target d.args) := by
            obtain ⟨dst, op, ty, pos, after, guard⟩ := o
            simp only at ho
            subst ho
            rfl
          rw [this]
          simp only [resolve, hcal, hfv, Deferred.ofValue, invoke, Sem.run_bind, Sem.run_pure, Result.andThen_ok]
          rw [run_enter hfn]
          congr 2
          apply Array.ext'
          simp
        cases hbor : C.bor f with
        | true =>
          simp only [hbor, cond_true] at hk ⊢
          obtain ⟨v, os, h1, h2, h3⟩ := hC _ _ _ _ _ hk
          obtain ⟨hpl, h1⟩ := cond_some h1
          refine ⟨_, h1, fun k' => ?_, ?_⟩
          · rw [h2]
            simp only [hpl, cond_true]
          · intro o ho E a hA K Q hK
            have hE := hA.ok
            have hsome : ∀ p, p ∈ ps → ∃ o, E.H p = some o := fun p hp => by
              obtain ⟨o, ho⟩ := hr2 p hp
              exact ⟨o, (hA.rd p hp).trans ho⟩
            obtain ⟨Ec, g1, g2, g3, g4, g5, g6, g7, g8⟩ := lend_env (h := h) hE hnd hA.rd hsome
            have hav : RL (RA E) args0 (c.args.toList.map a.eval) := opvs_rel hargs (fun y hy => hin y (by simp [hy])) hA
            obtain ⟨cvs, hfv, hcv⟩ := hcv E a hA
            have hvals := (hav.append hcv).map (R' := RA Ec) (f := renAV (idx ps)) (g := _root_.id) fun _ _ hr => g3 _ _ hr
            rw [List.map_id] at hvals
            have hcalls := h3.run Ec _ g1 g2 hvals
            rw [g6] at hcalls
            unfold Oper.wp
            rw [hexec0 E a o cvs ho hfv h3.fn]
            refine Calls.mono hcalls fun e w' he => ?_
            obtain ⟨x, E', rfl, rfl, k1, k2, k3, k4⟩ := he
            obtain ⟨En, e1, e2⟩ := lend_back (nx := nx) hE g4 g5 g6 g7 g8 k4 k3 hpl
            rw [← e1]
            exact hK x En e2
        | false =>
        simp only [hbor, cond_false] at hk ⊢
        obtain ⟨v, os, h1, h2, h3⟩ := hC _ _ _ _ _ hk
        obtain ⟨hle, h1⟩ := cond_some h1
        have hlen := Nat.le_of_ble_eq_true hle
        refine ⟨_, h1, fun k' => ?_, ?_⟩
        · rw [h2]
          simp only [hle, cond_true]
        · intro o ho E a hA K Q hK
          have hE := hA.ok
          have hsome : ∀ p, p ∈ ps → ∃ o, E.H p = some o := fun p hp => by
            obtain ⟨o, ho⟩ := hr2 p hp
            exact ⟨o, (hA.rd p hp).trans ho⟩
          have hal : ∀ i, i < os.length - ps.length → E.H (nx + i) = none := fun i hi => hA.al i (by simpa using hi)
          obtain ⟨Ec, g1, g2, g3, g4, g5, g6, g7⟩ := call_in_env (h := h) hE hnd hA.rd hsome
          -- what is called
          have hin : ∀ y, y ∈ fo :: c.args.toList → y ∈ (Op.call c).operands.toList := by
            intro y hy
            simp only [Op.operands, Call.operands, hcal]
            simpa using hy
          have hav : RL (RA E) args0 (c.args.toList.map a.eval) := opvs_rel hargs (fun y hy => hin y (by simp [hy])) hA
          have hfv : ∃ cvs : List Value, a.eval fo = .func (.func f) #[] cvs.toArray ∧ RL (RA E) caps cvs := by
            unfold callee at hcl
            split at hcl
            · simp at hcl
              obtain ⟨rfl, rfl⟩ := hcl
              exact ⟨[], rfl, .nil⟩
            · split at hcl
              · rename_i f' cps hx
                simp only [Option.some.injEq, Prod.mk.injEq] at hcl
                obtain ⟨rfl, rfl⟩ := hcl
                obtain ⟨e1, e2⟩ := opnd_in hA (hin _ (by simp)) hx
                exact ⟨_, e1, caps_rel e2⟩
              · cases hcl
          obtain ⟨cvs, hfv, hcv⟩ := hfv
          have hvals := (hav.append hcv).map (R' := RA Ec) (f := renAV (idx ps)) (g := _root_.id) fun _ _ hr => RA.ren g3 hr
          rw [List.map_id] at hvals
          have hcalls := h3.run Ec _ g1 g2 hvals
          rw [g6] at hcalls
          have hexec : (execOp a.eval o).run P E.w = .ok (.enter f (c.args.toList.map a.eval ++ cvs).toArray) E.w := by
            have : execOp a.eval o = (do let d ← resolve a.eval c o.type; invoke d.target d.args) := by
              obtain ⟨dst, op, ty, pos, after, guard⟩ := o
              simp only at ho
              subst ho
              rfl
            rw [this]
            simp only [resolve, hcal, hfv, Deferred.ofValue, invoke, Sem.run_bind, Sem.run_pure, Result.andThen_ok]
            rw [run_enter h3.fn]
            congr 2
            apply Array.ext'
            simp
          unfold Oper.wp
          rw [hexec]
          refine Calls.mono hcalls fun e w' he => ?_
          obtain ⟨x, E', rfl, rfl, k1, k2, k3, k4⟩ := he
          rw [objsAt_length] at k4
          obtain ⟨En, e1, e2⟩ := call_back (nx := nx) hE hnd hlen hsome hal g4 g5 g6 g7 k1 k2 k3 k4
          rw [← e1]
          exact hK x En e2
      · cases hk
    · cases hk
  · cases hk
end
end Go.Ve

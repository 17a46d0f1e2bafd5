/- The evaluator ("VE"): calls of the program's functions, put together; one operation of a region. -/
import Derived.Test.YtampnnhdgnhjaaaVe14
set_option linter.unusedVariables false
set_option linter.unusedSimpArgs false
namespace Go.Ve
section
variable {P : Program} {t : List (Nat × AV)} {h : List (Nat × AObj)} {nx : Nat} {u : Upd}

/-- the callee's state -/
theorem call_in_env {E : Env} {ps : List Nat} (hE : E.ok) (hnd : ps.Nodup) (hrd : ∀ id, id ∈ ps → E.H id = aget h id) (hsome : ∀ p, p ∈ ps → ∃ o, E.H p = some o) :
    ∃ Ec : Env, Ec.ok ∧ (∀ id, Ec.H id = (objsAt h (idx ps) ps)[id]?) ∧ Ren E Ec (idx ps) ∧ (∀ (j p : Nat), ps[j]? = some p → Ec.ι j = E.ι p ∧ ∀ o, E.H p = some o → Ec.H j = some (renObj (idx ps) o)) ∧
      (∀ b, Ec.D b ↔ (E.D b ∨ ∃ id o, E.H id = some o ∧ rw o = true ∧ id ∉ ps ∧ E.ι id = b)) ∧ Ec.w = E.w ∧ ∀ b, E.S b → Ec.S b := by
  let Ec : Env := ⟨fun j => match ps[j]? with | some p => E.ι p | none => 0, fun id => (objsAt h (idx ps) ps)[id]?, fun b => E.D b ∨ ∃ id o, E.H id = some o ∧ rw o = true ∧ id ∉ ps ∧ E.ι id = b, E.w⟩
  have hget : ∀ (j p : Nat), ps[j]? = some p → Ec.ι j = E.ι p ∧ ∀ o, E.H p = some o → Ec.H j = some (renObj (idx ps) o) := by
    intro j p hp
    refine ⟨by show (match ps[j]? with | some p => E.ι p | none => 0) = _; rw [hp], fun o ho => ?_⟩
    show (objsAt h (idx ps) ps)[j]? = _
    rw [objsAt_get, hp]
    rw [hrd p (List.mem_of_getElem? hp)] at ho
    simp [ho]
  have hinv : ∀ j o', Ec.H j = some o' → ∃ p o, ps[j]? = some p ∧ E.H p = some o ∧ o' = renObj (idx ps) o := by
    intro j o' ho
    have ho : (objsAt h (idx ps) ps)[j]? = some o' := ho
    rw [objsAt_get] at ho
    obtain ⟨p, hp, e⟩ := Option.map_eq_some_iff.1 ho
    obtain ⟨o, hpo⟩ := hsome p (List.mem_of_getElem? hp)
    have h2 := hpo
    rw [hrd p (List.mem_of_getElem? hp)] at h2
    exact ⟨p, o, hp, hpo, by rw [← e, h2]; rfl⟩
  have hS : ∀ b, E.S b → Ec.S b := by
    intro b ⟨h1, h2, h3⟩
    refine ⟨h1, fun hd => ?_, fun j o' ho hr => ?_⟩
    · rcases hd with hd | ⟨id, o, k1, k2, _, k3⟩
      · exact h2 hd
      · exact h3 id o k1 k2 k3
    · obtain ⟨p, o, k1, k2, rfl⟩ := hinv j o' ho
      rw [(hget j p k1).1]
      exact h3 p o k2 (by rw [← renObj_rw (idx ps)]; exact hr)
  have hren : Ren E Ec (idx ps) := ⟨rfl, hS, fun id j o hj ho => by
    have := idx_some hj
    exact ⟨(hget j id this).2 o ho, (hget j id this).1⟩⟩
  refine ⟨Ec, { obj := ?_, inj := ?_, out := ?_, dom := ?_ }, fun _ => rfl, hren, hget, fun b => Iff.rfl, rfl, hS⟩
  · intro j o' ho
    obtain ⟨p, o, k1, k2, rfl⟩ := hinv j o' ho
    exact RO.ren hren (hget j p k1).1 (hE.obj p o k2)
  · intro i j oi oj hi hj hri hlj hij
    obtain ⟨p, o, k1, k2, rfl⟩ := hinv i oi hi
    obtain ⟨q, o2, l1, l2, rfl⟩ := hinv j oj hj
    rw [(hget i p k1).1, (hget j q l1).1]
    refine hE.inj p q o o2 k2 l2 (by rw [← renObj_rw (idx ps)]; exact hri) (by rw [← renObj_live (idx ps)]; exact hlj) fun e => ?_
    subst e
    have := idx_of hnd k1
    rw [idx_of hnd l1] at this
    injection this with this
    exact hij this.symm
  · intro j o' ho hr
    obtain ⟨p, o, k1, k2, rfl⟩ := hinv j o' ho
    rw [renObj_rw] at hr
    rw [(hget j p k1).1]
    rintro (hd | ⟨id, q, l1, l2, l3, l4⟩)
    · exact hE.out p o k2 hr hd
    · exact hE.inj id p q o l1 k2 l2 (rw_live hr) (fun e => l3 (e ▸ List.mem_of_getElem? k1)) l4
  · rintro b (hd | ⟨id, o, l1, l2, l3, rfl⟩)
    · exact hE.dom b hd
    · obtain ⟨cs, hb⟩ := RO.blk (hE.obj id o l1) (rw_live l2)
      exact Env.blk_lt hb

theorem caps_rel {E : Env} {caps : List (Nat × Nat)} (hc : ∀ p, p ∈ caps → ∃ ro l, E.H p.1 = some (.cells ro l)) : RL (RA E) (caps.map fun p => AV.c (.ptr p.1 p.2)) (caps.map fun p => Value.pointer (some ⟨E.ι p.1, p.2, none⟩)) := by
  induction caps with
  | nil => exact .nil
  | cons p r ih =>
    obtain ⟨ro, l, ho⟩ := hc p (by simp)
    refine .cons ?_ (ih fun q hq => hc q (by simp [hq]))
    simp only [RA, RV, RC, ho]
theorem run_enter {f : FuncId} {args : Array Value} {w : World} (hf : ∃ fn, P.funcs[f]? = some fn ∧ fn.body.isNone = false ∧ (fn.name == "runtime.NumGoroutine") = false) : (callFunc f args).run P w = .ok (.enter f args) w := by
  obtain ⟨fn, h1, h2, h3⟩ := hf
  have h3' : ¬ fn.name = "runtime.NumGoroutine" := by simpa using h3
  have h2' : ¬ fn.body = none := by intro e; rw [e] at h2; cases h2
  simp [callFunc, h1, h2', h3']

theorem evalCall_ok {C : Ctx} (hC : CallSem P C.call) {c : Call} {k : Upd → Option Out} {r : Out} (hk : evalCall C t h nx c k = some r) :
    ∃ u, k u = some r ∧ (∀ k', evalCall C t h nx c k' = k' u) ∧ OpOk P (.call c) t h nx u := by
  unfold evalCall at hk ⊢
  split at hk
  · rename_i fo hcal
    split at hk
    · rename_i f caps args0 hcl hargs
      dsimp only at hk ⊢
      split at hk
      · rename_i ps hps
        obtain ⟨hnd, rr, hr1, hr2⟩ := reach_spec hps List.nodup_nil
        simp only [List.nil_append] at hr1
        subst hr1
        obtain ⟨v, os, h1, h2, h3⟩ := hC _ _ _ _ _ hk
        obtain ⟨hle, h1⟩ := cond_some h1
        have hlen := Nat.le_of_ble_eq_true hle
        refine ⟨_, h1, fun k' => ?_, ?_⟩
        · rw [h2]
          simp only [hle, cond_true]
        · intro o ho E a hA K Q hK
          have hE := hA.ok
          have hsome : ∀ p, p ∈ ps → ∃ o, E.H p = some o := fun p hp => by
            obtain ⟨o, ho⟩ := hr2 p hp
            exact ⟨o, (hA.rd p hp).trans ho⟩
          have hal : ∀ i, i < os.length - ps.length → E.H (nx + i) = none := fun i hi => hA.al i (by simpa using hi)
          obtain ⟨Ec, g1, g2, g3, g4, g5, g6, g7⟩ := call_in_env (h := h) hE hnd hA.rd hsome
          -- what is called
          have hin : ∀ y, y ∈ fo :: c.args.toList → y ∈ (Op.call c).operands.toList := by
            intro y hy
            simp only [Op.operands, Call.operands, hcal]
            simpa using hy
          have hav : RL (RA E) args0 (c.args.toList.map a.eval) := opvs_rel hargs (fun y hy => hin y (by simp [hy])) hA
          have hfv : ∃ cvs : List Value, a.eval fo = .func (.func f) #[] cvs.toArray ∧ RL (RA E) caps cvs := by
            unfold callee at hcl
            split at hcl
            · simp at hcl
              obtain ⟨rfl, rfl⟩ := hcl
              exact ⟨[], rfl, .nil⟩
            · split at hcl
              · rename_i f' cps hx
                simp only [Option.some.injEq, Prod.mk.injEq] at hcl
                obtain ⟨rfl, rfl⟩ := hcl
                obtain ⟨e1, e2⟩ := opnd_in hA (hin _ (by simp)) hx
                exact ⟨_, e1, caps_rel e2⟩
              · cases hcl
          obtain ⟨cvs, hfv, hcv⟩ := hfv
          have hvals := (hav.append hcv).map (R' := RA Ec) (f := renAV (idx ps)) (g := _root_.id) fun _ _ hr => RA.ren g3 hr
          rw [List.map_id] at hvals
          have hcalls := h3.run Ec _ g1 g2 hvals
          rw [g6] at hcalls
          have hexec : (execOp a.eval o).run P E.w = .ok (.enter f (c.args.toList.map a.eval ++ cvs).toArray) E.w := by
            have : execOp a.eval o = (do let d ← resolve a.eval c o.type; invoke d.target d.args) := by
              obtain ⟨dst, op, ty, pos, after, guard⟩ := o
              simp only at ho
              subst ho
              rfl
            rw [this]
            simp only [resolve, hcal, hfv, Deferred.ofValue, invoke, Sem.run_bind, Sem.run_pure, Result.andThen_ok]
            rw [run_enter h3.fn]
            congr 2
            apply Array.ext'
            simp
          unfold Oper.wp
          rw [hexec]
          refine Calls.mono hcalls fun e w' he => ?_
          obtain ⟨x, E', rfl, rfl, k1, k2, k3, k4⟩ := he
          rw [objsAt_length] at k4
          obtain ⟨En, e1, e2⟩ := call_back (nx := nx) hE hnd hlen hsome hal g4 g5 g6 g7 k1 k2 k3 k4
          rw [← e1]
          exact hK x En e2
      · cases hk
    · cases hk
  · cases hk
end
end Go.Ve

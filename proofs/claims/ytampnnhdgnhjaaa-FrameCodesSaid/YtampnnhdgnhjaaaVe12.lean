/- The evaluator ("VE"): every operation that calls no function of the program. -/
import Derived.Test.YtampnnhdgnhjaaaVe11
set_option linter.unusedVariables false
set_option linter.unusedSimpArgs false
namespace Go.Ve
section
variable {P : Program} {t : List (Nat × AV)} {h : List (Nat × AObj)} {nx : Nat} {u : Upd}

theorem stp_cond {b : Bool} {s : Stp} (hu : (bif b then s else Stp.fail).get = some u) : b = true ∧ s.get = some u := by
  cases b with
  | true => exact ⟨rfl, hu⟩
  | false => cases hu
theorem bi_len (ats : Array TypeId) (ty : TypeId) (cs : Array Bool) (args : Array Value) : builtin .len ats ty cs args = (do pure (.value (← Builtin.len_ ats ty args))) := rfl
theorem bi_cap (ats : Array TypeId) (ty : TypeId) (cs : Array Bool) (args : Array Value) : builtin .cap ats ty cs args = (do pure (.value (← Builtin.cap_ ats ty args))) := rfl
theorem bi_max (ats : Array TypeId) (ty : TypeId) (cs : Array Bool) (args : Array Value) : builtin .max ats ty cs args = (do pure (.value (← Builtin.max_ ats ty args))) := rfl
theorem bi_min (ats : Array TypeId) (ty : TypeId) (cs : Array Bool) (args : Array Value) : builtin .min ats ty cs args = (do pure (.value (← Builtin.min_ ats ty args))) := rfl

theorem args_rel {c : Call} {b : Builtin} (hc : c.callee = .builtin b) {vs : List AV} (hargs : opvs t c.args.toList = some vs) {E : Env} {a : Act} (hA : Ahead E a t h nx (.call c) u) : RL (RA E) vs (c.args.map a.eval).toList := by
  have hr := opvs_rel hargs (fun y hy => call_in hc (by simpa using hy)) hA
  simpa using hr

theorem ok_builtin {tt : Nat → Option TD} (hT : TT P tt) {c : Call} {b : Builtin} (hc : c.callee = .builtin b) {vs : List AV} (hargs : opvs t c.args.toList = some vs) (hu : (evBuiltin tt h nx b c.argTypes.toList vs).get = some u) : OpOk P (.call c) t h nx u := by
  unfold evBuiltin at hu
  split at hu
  · rename_i T tys x vs' hty
    obtain ⟨n, hn, hrun⟩ := evLen_ok hT hu
    rw [hn]
    refine opOk_val fun o ho E a hA => ⟨goInt n, ?_, rfl, rfl⟩
    have hr := args_rel hc hargs hA
    generalize hl : (c.args.map a.eval).toList = l at hr
    cases hr with
    | @cons _ y0 _ _ h1 _ =>
      rw [call_run hc ho, bi_len]
      have e1 : c.argTypes[0]? = some T := by rw [← Array.getElem?_toList, hty]; rfl
      have e2 : (c.args.map a.eval)[0]? = some y0 := by rw [← Array.getElem?_toList, hl]; rfl
      simp only [Sem.run_bind, hrun E hA.ok hA.rd _ h1 _ _ o.type e1 e2, Result.andThen_ok, Sem.run_pure]
  · rename_i T tys vs' hty
    split at hu
    · rename_i td htd
      have ht := hT T td htd
      split at hu
      · rename_i e hk
        simp only [Stp.get, Option.some.injEq] at hu
        subst hu
        refine opOk_val fun o ho E a hA => ⟨goInt 0, ?_, rfl, rfl⟩
        have hr := args_rel hc hargs hA
        generalize hl : (c.args.map a.eval).toList = l at hr
        cases hr with
        | @cons _ y0 _ _ h1 _ =>
          obtain ⟨rfl, _⟩ := h1
          rw [call_run hc ho]
          have e1 : c.argTypes[0]? = some T := by rw [← Array.getElem?_toList, hty]; rfl
          have e2 : (c.args.map a.eval)[0]? = some (.slice none 0 0) := by rw [← Array.getElem?_toList, hl]; rfl
          have hcap : (Builtin.cap_ c.argTypes o.type (c.args.map a.eval)).run P E.w = .ok (goInt 0) E.w := by
            simp [Builtin.cap_, e1, e2, Go.run_underlying (und_slc ht hk)]
          rw [bi_cap]
          simp only [Sem.run_bind, hcap, Result.andThen_ok, Sem.run_pure]
      · cases hu
    · cases hu
  · rename_i T U s x hty
    split at hu
    · rename_i ud hud
      exact ok_append hT hc hty hud hargs hu
    · cases hu
  · rename_i x r hty
    obtain ⟨z, hz, hu⟩ := Stp.of_get hu
    simp only [Stp.get, Option.some.injEq] at hu
    subst hu
    refine opOk_val fun o ho E a hA => ?_
    have hr := args_rel hc hargs hA
    generalize hl : (c.args.map a.eval).toList = l at hr
    cases hr with
    | cons h1 h2 =>
      obtain ⟨v', h3, h4⟩ := run_fold (P := P) max2_eq hz h1 h2
      refine ⟨v', ?_, h4⟩
      rw [call_run hc ho, bi_max]
      simp only [Builtin.max_, hl, Sem.run_bind, h3, Result.andThen_ok, Sem.run_pure]
  · rename_i x r hty
    obtain ⟨z, hz, hu⟩ := Stp.of_get hu
    simp only [Stp.get, Option.some.injEq] at hu
    subst hu
    refine opOk_val fun o ho E a hA => ?_
    have hr := args_rel hc hargs hA
    generalize hl : (c.args.map a.eval).toList = l at hr
    cases hr with
    | cons h1 h2 =>
      obtain ⟨v', h3, h4⟩ := run_fold (P := P) min2_eq hz h1 h2
      refine ⟨v', ?_, h4⟩
      rw [call_run hc ho, bi_min]
      simp only [Builtin.min_, hl, Sem.run_bind, h3, Result.andThen_ok, Sem.run_pure]
  · cases hu

theorem evalOp_ok {tt : Nat → Option TD} {eqs : Nat → Bool} (hT : TT P tt) (hE : EqOk P tt eqs) {op : Op} (hu : (evalOp tt eqs t h nx op).get = some u) : OpOk P op t h nx u := by
  unfold evalOp at hu
  split at hu
  · obtain ⟨v, hv, hu⟩ := Stp.of_get hu
    simp only [Stp.get, Option.some.injEq] at hu; subst hu
    exact ok_move hv
  · obtain ⟨v, hv, hu⟩ := Stp.of_get hu
    simp only [Stp.get, Option.some.injEq] at hu; subst hu
    exact ok_assign hv
  · split at hu
    · rename_i z hz
      cases z with
      | true =>
        obtain ⟨v, hv, hu⟩ := Stp.of_get (show (Stp.of _ _).get = _ from hu)
        simp only [Stp.get, Option.some.injEq] at hu; subst hu
        exact ok_pick (z := true) hz hv
      | false =>
        obtain ⟨v, hv, hu⟩ := Stp.of_get (show (Stp.of _ _).get = _ from hu)
        simp only [Stp.get, Option.some.injEq] at hu; subst hu
        exact ok_pick (z := false) hz hv
    · cases hu
  · obtain ⟨td, htd, hu⟩ := Stp.of_get hu
    simp only [Stp.get, Option.some.injEq] at hu; subst hu
    exact ok_alloc hT htd
  · obtain ⟨v, hv, hu⟩ := Stp.of_get hu
    simp only [Stp.get, Option.some.injEq] at hu; subst hu
    exact ok_box hv
  · split at hu
    · rename_i td vs htd hvs
      split at hu
      · rename_i fs hk
        obtain ⟨l, hl, hu⟩ := Stp.of_get hu
        simp only [Stp.get, Option.some.injEq] at hu; subst hu
        exact ok_build hT htd hvs (.inl ⟨fs, hk, rfl⟩) hl
      · rename_i n e hk
        obtain ⟨ed, hed, hu⟩ := Stp.of_get hu
        obtain ⟨l, hl, hu⟩ := Stp.of_get hu
        simp only [Stp.get, Option.some.injEq] at hu; subst hu
        exact ok_build hT htd hvs (.inr ⟨n, e, ed, hk, hed, rfl⟩) hl
      · cases hu
    · cases hu
  · exact ok_buildSlice hT hu
  · split at hu
    · rename_i p hp
      exact ok_load hT hp hu
    · cases hu
  · split at hu
    · rename_i p v hp hv
      exact ok_store hT hp hv hu
    · cases hu
  · split at hu
    · rename_i a b hx
      simp only [Stp.get, Option.some.injEq] at hu; subst hu
      exact ok_nilCheck hx (fun E y hy => by
        simp only [RA, RV, RC] at hy
        split at hy
        · exact .inl ⟨_, hy⟩
        · exact hy.elim)
    · rename_i a b c hx
      cases ho : aget h a with
      | none => simp only [ho, Stp.get] at hu; cases hu
      | some ob =>
        cases hl : live ob with
        | false => simp only [ho, hl, cond_false, Stp.get] at hu; cases hu
        | true =>
          simp only [ho, hl, cond_true, Stp.get, Option.some.injEq] at hu; subst hu
          refine opOk_val fun o ho' E a' hA => ?_
          have hv' := opnd_in hA (by simp [Op.operands]) hx
          have hH := (hA.rd _ (by simp)).trans ho
          simp only [RA, RV, RC, hH] at hv'
          cases ob with
          | dead => simp [live] at hl
          | cells => exact hv'.elim
          | parr ro k e n f =>
            obtain ⟨e1, e2⟩ := hv'
            exact ⟨.pointer (some ⟨E.ι a, b * e + c, none⟩), by simp [execOp, ho', e1], by simpa only [RA, RV, RC, hH, true_and] using e2⟩
    · rename_i a b c hx
      simp only [Stp.get, Option.some.injEq] at hu; subst hu
      exact ok_nilCheck hx (fun E y hy => by
        obtain ⟨b, p, e, _⟩ := hy
        exact .inl ⟨_, e⟩)
    · rename_i a b hx
      simp only [Stp.get, Option.some.injEq] at hu; subst hu
      exact ok_nilCheck hx (fun E y hy => .inr ⟨_, _, hy.1⟩)
    · cases hu
  · split at hu
    · rename_i a b ha hb
      exact ok_bin hT hE ha hb hu
    · cases hu
  · obtain ⟨v, hv, hu⟩ := Stp.of_get hu
    exact ok_un hv hu
  · split at hu
    · rename_i v hv
      exact ok_convert hT hv hu
    · cases hu
  · split at hu
    · rename_i cs hf hcs
      simp only [Stp.get, Option.some.injEq] at hu; subst hu
      obtain ⟨vs, hvs, hcs⟩ := Option.bind_eq_some_iff.1 hcs
      exact ok_makeFunc hf hvs hcs
    · cases hu
  · split at hu
    · rename_i a b ha hb
      exact ok_makeSlice hT ha hb hu
    · cases hu
  · split at hu
    · rename_i v a b c hv ha hb hc
      exact ok_slice hT hv ha hb hc hu
    · cases hu
  · split at hu
    · rename_i p hp
      exact ok_fieldAddr hT hp hu
    · cases hu
  · split at hu
    · rename_i p n hp hn
      exact ok_indexAddr hT hp hn hu
    · cases hu
  · split at hu
    · rename_i v n hv hn
      obtain ⟨hs, hu⟩ := stp_cond hu
      refine ok_index hT hv hn (fun s e => ?_) hu
      subst e
      simp only [strOk] at hs
      split at hs
      · rename_i td htd
        refine ⟨td, htd, ?_⟩
        split at hs
        · assumption
        · cases hs
      · cases hs
    · cases hu
  · split at hu
    · rename_i l hl
      obtain ⟨v, hv, hu⟩ := Stp.of_get hu
      simp only [Stp.get, Option.some.injEq] at hu; subst hu
      exact ok_extract hl hv
    · cases hu
  · split at hu
    · rename_i b hb
      obtain ⟨vs, hvs, hu⟩ := Stp.of_get hu
      exact ok_builtin hT hb hvs hu
    · cases hu
  · cases hu
end
end Go.Ve

/- The evaluator ("VE"): every operation that calls no function of the program. -/
import Derived.Test.YtijabmpcicddbaaVe30
set_option linter.unusedVariables false
set_option linter.unusedSimpArgs false
namespace Go.Ve
section
variable {P : Program} {t : List (Nat × AV)} {h : List (Nat × AObj)} {nx : Nat} {u : Upd}

theorem stp_cond {b : Bool} {s : Stp} (hu : (bif b then s else Stp.fail).get = some u) : b = true ∧ s.get = some u := by
  cases b with
  | true => exact ⟨rfl, hu⟩
  | false => cases hu
theorem bi_len (ats : Array TypeId) (ty : TypeId) (cs : Array Bool) (args : Array Value) : builtin .len ats ty cs args = (do pure (.value (← Builtin.len_ ats ty args))) := rfl
theorem bi_cap (ats : Array TypeId) (ty : TypeId) (cs : Array Bool) (args : Array Value) : builtin .cap ats ty cs args = (do pure (.value (← Builtin.cap_ ats ty args))) := rfl
theorem bi_max (ats : Array TypeId) (ty : TypeId) (cs : Array Bool) (args : Array Value) : builtin .max ats ty cs args = (do pure (.value (← Builtin.max_ ats ty args))) := rfl
theorem bi_min (ats : Array TypeId) (ty : TypeId) (cs : Array Bool) (args : Array Value) : builtin .min ats ty cs args = (do pure (.value (← Builtin.min_ ats ty args))) := rfl

theorem args_rel {c : Call} {b : Builtin} (hc : c.callee = .builtin b) {vs : List AV} (hargs : opvs t c.args.toList = some vs) {E : Env} {a : Act} (hA : Ahead E a t h nx (.call c) u) : RL (RA E) vs (c.args.map a.eval).toList := by
  have hr := opvs_rel hargs (fun y hy => call_in hc (by simpa using hy)) hA
  simpa using hr

theorem bi_clear (ats : Array TypeId) (ty : TypeId) (cs : Array Bool) (args : Array Value) : builtin .clear ats ty cs args = (do pure (.value (← Builtin.clear_ ats ty args))) := rfl
theorem ok_clear {tt : Nat → Option TD} (hT : TT P tt) {c : Call} (hc : c.callee = .builtin .clear) {T : Nat} {tys : List Nat} (hty : c.argTypes.toList = T :: tys) {x : CV} {vs' : List AV} (hargs : opvs t c.args.toList = some (.v (.c x) :: vs'))
    (hu : (evClear tt h T x).get = some u) : OpOk P (.call c) t h nx u := by
  unfold evClear at hu
  split at hu
  · rename_i e sz by' z phl htd
    have htu := und_slc (hT T _ htd) rfl
    split at hu
    · rename_i td he
      have hte := hT e td he
      split at hu
      · rename_i id lo n
        split at hu
        · rename_i nl k s N f hid
          cases hse : (Nat.beq s td.size && fitsAt k (td.zero.map .val)) with
          | false => simp only [hse, cond_false] at hu; cases hu
          | true =>
            rw [Bool.and_eq_true] at hse
            obtain ⟨hse, hfk⟩ := hse
            obtain rfl := Nat.eq_of_beq_eq_true hse
            simp only [hse, hfk, Bool.and_true, cond_true, Stp.get, Option.some.injEq] at hu
            subst hu
            intro o ho E a hA K Q hK
            have hr := args_rel hc hargs hA
            generalize hl : (c.args.map a.eval).toList = l at hr
            have hHid : E.H id = some (.parr false nl k td.size N f) := (hA.rd id (by simp)).trans hid
            have hE := hA.ok
            cases hr with
            | @cons _ y0 _ _ h1 _ =>
            have e1 : c.argTypes[0]? = some T := by rw [← Array.getElem?_toList, hty]; rfl
            have e2 : (c.args.map a.eval)[0]? = some y0 := by rw [← Array.getElem?_toList, hl]; rfl
            simp only [RA, RV, RC, hHid] at h1
            obtain ⟨hln, h1⟩ := h1
            have hkind : RowK k N (clrf lo n td.zero f) := by
              intro j hj q
              unfold clrf
              cases hb : (Nat.ble lo j && Nat.blt j (lo + n) && Nat.blt q td.zero.length) with
              | false => exact (hE.obj id _ hHid).1 j hj q
              | true =>
                rw [cond_true]
                rw [Bool.and_eq_true] at hb
                have hq : q < td.zero.length := Nat.le_of_ble_eq_true hb.2
                exact fitsAt_ok hfk (i := q) (p := .val (td.zero.getD q undef)) (by simp [hq, List.getD])
            cases nl with
            | true =>
              rcases h1 with ⟨_, h0, rfl⟩ | ⟨h0, _⟩
              rotate_left
              · cases h0
              subst h0
              obtain ⟨E2, ok2, ev2, w2, d2, H2⟩ := swap_ex (o' := .parr false true k td.size 0 (clrf lo n td.zero f)) hE hHid rfl (by simp [shape]) (by rintro ⟨_, _, e⟩; cases e) fun _ => ⟨hkind, .inl ⟨rfl, rfl⟩⟩
              have hE2 : After E nx { v := some (.tup []), rd := [id], wr := [(id, .parr false true k td.size 0 (clrf lo n td.zero f))] } (.tuple #[]) E2 := by
                refine After.quiet ok2 ev2 w2 d2 (fun x => ?_) fun av hav => ?_
                · rw [updH_eq, if_neg (by simp), H2]
                  simp [foldH]
                · injection hav with hav
                  subst hav
                  exact ⟨#[], rfl, .nil⟩
              refine wp_of_run (v := .tuple #[]) (w' := E2.w) ?_ (hK _ _ hE2)
              rw [call_run hc ho, bi_clear, w2]
              simp [Builtin.clear_, e1, e2, Go.run_underlying htu]
            | false =>
              rcases h1 with ⟨h0, _⟩ | ⟨_, ad, cap, rfl, hcap, had⟩
              · cases h0
              obtain ⟨cs, hb, hN, hkk, hold, _⟩ := (hE.obj id _ hHid).same rfl
              obtain ⟨zv, hz, hzl⟩ := hte.run_zero E.w
              have hzs : zv.cells.size = td.size := by rw [← Array.length_toList, hzl, hte.len]
              have hzn : (Builtin.zeroCells zv.cells n).toList.length = n * td.size := by simp [Builtin.zeroCells, hzs]
              have hin : lo * td.size + (Builtin.zeroCells zv.cells n).toList.length ≤ cs.size := by
                rw [hzn, ← Nat.add_mul]
                exact Nat.le_trans (Nat.mul_le_mul_right _ hln) hN
              obtain ⟨cs', T', fr, k1, k2, k3, k4⟩ := blk_set hb hin
              have hbc := hb
              obtain ⟨T0, fr0, hb0, hf0⟩ := hbc
              obtain ⟨r1, r2, r3, r4⟩ := setCells_rest (E.ι id) (Builtin.zeroCells zv.cells n).toList (lo * td.size) E.w
              obtain ⟨E', hw', hE'⟩ := After.write (u := { v := some (.tup []), rd := [id], wr := [(id, .parr false false k td.size N (clrf lo n td.zero f))] }) (v := .tuple #[]) (d := id) (nx := nx) (w' := E.w.setCells (E.ι id) (lo * td.size) (Builtin.zeroCells zv.cells n).toList) hE hHid rfl (by simp) (by simp)
                (fun q hq => by
                  simp at hq
                  subst hq
                  exact .inr ⟨rfl, by simp [shape], (by rintro ⟨_, _, e⟩; cases e), .inr rfl⟩)
                (fun hne => absurd rfl hne) r1 r2 r3 r4 (fun b hb => setCells_other _ _ _ _ _ hb) k1 k2 (fun cs0 h0 => by rw [Env.blk_unique h0 hb, k3]) (by simp)
                (fun E' hev hH hr id' o' hc ho' hbl => by
                  rcases hc with rfl | ⟨_, hc, _⟩
                  · rw [hH, updH_eq, if_neg (by simp)] at ho'
                    simp [foldH] at ho'
                    subst ho'
                    refine ⟨hkind, .inr ⟨rfl, cs', hbl, by rw [k3]; exact hN, fun j hj c hcc => ?_, fun e => by cases e⟩⟩
                    rw [getElem?_set k4 hin]
                    have hput := put_get (n := lo) (m := n) (j := j) hzn (f := f) (g := fun _ c => .val (td.zero.getD c undef)) (S := E'.S) (w := E'.w) (fun c hcc => by obtain ⟨y, hy, hr⟩ := hold j hj c hcc; exact ⟨y, hy, RP.mono hev.s hev.c hr⟩) (fun j hj c hcc => by
                      have hg := zeroCells_get zv.cells n (j * td.size + c) (by
                        rw [hzs]
                        have : (j + 1) * td.size ≤ n * td.size := Nat.mul_le_mul_right _ hj
                        rw [Nat.add_mul] at this
                        omega)
                      rw [hzs, Nat.mul_comm j, Nat.mul_add_mod, Nat.mod_eq_of_lt hcc, Nat.mul_comm] at hg
                      have hlz : c < td.zero.length := by rw [hte.len]; exact hcc
                      refine ⟨td.zero.getD c undef, ?_, rfl, ?_⟩
                      · rw [Array.getElem?_toList, hg, ← Array.getElem?_toList, hzl, List.getElem?_eq_getElem hlz]
                        simp [List.getD, hlz]
                      · simp only [List.getD, List.getElem?_eq_getElem hlz, Option.getD_some]
                        exact hte.one _ (List.getElem_mem _)) c hcc
                    have hcl : clrf lo n td.zero f j c = putf lo n f (fun _ c => .val (td.zero.getD c undef)) j c := by
                      unfold clrf putf
                      have : Nat.blt c td.zero.length = true := Nat.ble_eq_true_of_le (by rw [hte.len]; exact hcc)
                      rw [this, Bool.and_true]
                    rw [hcl]
                    exact hput
                  · cases hc)
                (fun E' _ _ _ _ av hav => by
                  injection hav with hav
                  subst hav
                  exact ⟨#[], rfl, .nil⟩)
              refine wp_of_run (v := .tuple #[]) ?_ (hw' ▸ hK _ E' hE')
              rw [call_run hc ho, bi_clear]
              by_cases hn0 : n = 0
              · subst hn0
                have hnil : (Builtin.zeroCells zv.cells 0).toList = [] := List.eq_nil_of_length_eq_zero (by rw [hzn]; simp)
                rw [hnil]
                simp [Builtin.clear_, e1, e2, Go.run_underlying htu, World.setCells]
              · obtain rfl := had (by omega)
                have hst := run_storeCells_cells (P := P) (E.ι id) (lo * td.size) (Builtin.zeroCells zv.cells n).toList 0 E.w
                  (fun j hj => by
                    have : lo * td.size + 0 + j < cs.size := by omega
                    simp only [World.cell?, hb0]
                    simp only [Nat.add_zero] at this
                    simp [this])
                  (fun j hj => by
                    have := hf0.2 (lo * td.size + j) (by omega)
                    simp only [World.frozen?, hb0]
                    simp
                    omega)
                  (fun u hu => by
                    obtain ⟨j, hj, rfl⟩ := List.mem_iff_getElem.1 hu
                    rw [hzn] at hj
                    have hg := zeroCells_get zv.cells n j (by rw [hzs]; exact hj)
                    have hpos : 0 < td.size := Nat.pos_of_ne_zero fun e => by rw [e] at hj; simp at hj
                    have hlt := Nat.mod_lt j hpos
                    rw [hzs, ← Array.getElem?_toList, ← Array.getElem?_toList, hzl] at hg
                    rw [List.getElem?_eq_getElem (by rw [hzn]; exact hj), List.getElem?_eq_getElem (by rw [hte.len]; exact hlt)] at hg
                    injection hg with hg
                    rw [hg]
                    exact hte.one _ (List.getElem_mem _))
                simp only [Nat.add_zero] at hst
                obtain ⟨n', rfl⟩ : ∃ n', n = n' + 1 := ⟨n - 1, by omega⟩
                simp [Builtin.clear_, e1, e2, Go.run_underlying htu, hz, hst]
        · cases hu
      · cases hu
    · cases hu
  · cases hu
theorem ok_builtin {tt : Nat → Option TD} (hT : TT P tt) {c : Call} {b : Builtin} (hc : c.callee = .builtin b) {vs : List AV} (hargs : opvs t c.args.toList = some vs) (hu : (evBuiltin tt h nx b c.argTypes.toList vs).get = some u) : OpOk P (.call c) t h nx u := by
  unfold evBuiltin at hu
  split at hu
  · rename_i T tys x vs' hty
    obtain ⟨n, hn, hrun⟩ := evLen_ok hT hu
    rw [hn]
    refine opOk_val fun o ho E a hA => ⟨goInt n, ?_, rfl, rfl⟩
    have hr := args_rel hc hargs hA
    generalize hl : (c.args.map a.eval).toList = l at hr
    cases hr with
    | @cons _ y0 _ _ h1 _ =>
      rw [call_run hc ho, bi_len]
      have e1 : c.argTypes[0]? = some T := by rw [← Array.getElem?_toList, hty]; rfl
      have e2 : (c.args.map a.eval)[0]? = some y0 := by rw [← Array.getElem?_toList, hl]; rfl
      simp only [Sem.run_bind, hrun E hA.ok hA.rd _ h1 _ _ o.type e1 e2, Result.andThen_ok, Sem.run_pure]
  · rename_i T tys vs' hty
    split at hu
    · rename_i td htd
      have ht := hT T td htd
      split at hu
      · rename_i e hk
        simp only [Stp.get, Option.some.injEq] at hu
        subst hu
        refine opOk_val fun o ho E a hA => ⟨goInt 0, ?_, rfl, rfl⟩
        have hr := args_rel hc hargs hA
        generalize hl : (c.args.map a.eval).toList = l at hr
        cases hr with
        | @cons _ y0 _ _ h1 _ =>
          obtain ⟨rfl, _⟩ := h1
          rw [call_run hc ho]
          have e1 : c.argTypes[0]? = some T := by rw [← Array.getElem?_toList, hty]; rfl
          have e2 : (c.args.map a.eval)[0]? = some (.slice none 0 0) := by rw [← Array.getElem?_toList, hl]; rfl
          have hcap : (Builtin.cap_ c.argTypes o.type (c.args.map a.eval)).run P E.w = .ok (goInt 0) E.w := by
            simp [Builtin.cap_, e1, e2, Go.run_underlying (und_slc ht hk)]
          rw [bi_cap]
          simp only [Sem.run_bind, hcap, Result.andThen_ok, Sem.run_pure]
      · cases hu
    · cases hu
  · rename_i T U s x hty
    split at hu
    · rename_i ud hud
      exact ok_append hT hc hty hud hargs hu
    · cases hu
  · rename_i T tys x vs' hty
    exact ok_clear hT hc hty hargs hu
  · rename_i x r hty
    obtain ⟨z, hz, hu⟩ := Stp.of_get hu
    simp only [Stp.get, Option.some.injEq] at hu
    subst hu
    refine opOk_val fun o ho E a hA => ?_
    have hr := args_rel hc hargs hA
    generalize hl : (c.args.map a.eval).toList = l at hr
    cases hr with
    | cons h1 h2 =>
      obtain ⟨v', h3, h4⟩ := run_fold (P := P) max2_eq hz h1 h2
      refine ⟨v', ?_, h4⟩
      rw [call_run hc ho, bi_max]
      simp only [Builtin.max_, hl, Sem.run_bind, h3, Result.andThen_ok, Sem.run_pure]
  · rename_i x r hty
    obtain ⟨z, hz, hu⟩ := Stp.of_get hu
    simp only [Stp.get, Option.some.injEq] at hu
    subst hu
    refine opOk_val fun o ho E a hA => ?_
    have hr := args_rel hc hargs hA
    generalize hl : (c.args.map a.eval).toList = l at hr
    cases hr with
    | cons h1 h2 =>
      obtain ⟨v', h3, h4⟩ := run_fold (P := P) min2_eq hz h1 h2
      refine ⟨v', ?_, h4⟩
      rw [call_run hc ho, bi_min]
      simp only [Builtin.min_, hl, Sem.run_bind, h3, Result.andThen_ok, Sem.run_pure]
  · cases hu

theorem evalOp_ok {tt : Nat → Option TD} {eqs : Nat → Bool} (hT : TT P tt) (hE : EqOk P tt eqs) {op : Op} (hu : (evalOp tt eqs t h nx op).get = some u) : OpOk P op t h nx u := by
  unfold evalOp at hu
  split at hu
  · obtain ⟨v, hv, hu⟩ := Stp.of_get hu
    simp only [Stp.get, Option.some.injEq] at hu; subst hu
    exact ok_move hv
  · obtain ⟨v, hv, hu⟩ := Stp.of_get hu
    simp only [Stp.get, Option.some.injEq] at hu; subst hu
    exact ok_assign hv
  · split at hu
    · rename_i z hz
      cases z with
      | true =>
        obtain ⟨v, hv, hu⟩ := Stp.of_get (show (Stp.of _ _).get = _ from hu)
        simp only [Stp.get, Option.some.injEq] at hu; subst hu
        exact ok_pick (z := true) hz hv
      | false =>
        obtain ⟨v, hv, hu⟩ := Stp.of_get (show (Stp.of _ _).get = _ from hu)
        simp only [Stp.get, Option.some.injEq] at hu; subst hu
        exact ok_pick (z := false) hz hv
    · cases hu
  · obtain ⟨td, htd, hu⟩ := Stp.of_get hu
    simp only [Stp.get, Option.some.injEq] at hu; subst hu
    exact opOk_ph td.ph (ok_alloc hT htd)
  · obtain ⟨v, hv, hu⟩ := Stp.of_get hu
    simp only [Stp.get, Option.some.injEq] at hu; subst hu
    exact opOk_ph _ (ok_box hv)
  · exact ok_makeMap hT hu
  · split at hu
    · rename_i m k hm hk
      exact ok_lookup hT hE.1 hE.2 hm hk hu
    · cases hu
  · split at hu
    · rename_i m k y hm hk hy
      exact ok_mapUpdate hT hE.1 hE.2 (.inl rfl) hm hk hy hu
    · cases hu
  · split at hu
    · rename_i m k y hm hk hy
      exact ok_mapUpdate hT hE.1 hE.2 (.inr rfl) hm hk hy hu
    · cases hu
  · split at hu
    · rename_i td vs htd hvs
      split at hu
      · rename_i fs hk
        obtain ⟨l, hl, hu⟩ := Stp.of_get hu
        simp only [Stp.get, Option.some.injEq] at hu; subst hu
        exact ok_build hT htd hvs (.inl ⟨fs, hk, rfl⟩) hl
      · rename_i n e hk
        obtain ⟨ed, hed, hu⟩ := Stp.of_get hu
        obtain ⟨l, hl, hu⟩ := Stp.of_get hu
        simp only [Stp.get, Option.some.injEq] at hu; subst hu
        exact ok_build hT htd hvs (.inr ⟨n, e, ed, hk, hed, rfl⟩) hl
      · cases hu
    · cases hu
  · exact ok_buildSlice hT hu
  · split at hu
    · rename_i p hp
      exact ok_load hT hp hu
    · cases hu
  · split at hu
    · rename_i p v hp hv
      exact ok_store hT hp hv hu
    · cases hu
  · split at hu
    · rename_i a b hx
      simp only [Stp.get, Option.some.injEq] at hu; subst hu
      exact ok_nilCheck hx (fun E y hy => by
        simp only [RA, RV, RC] at hy
        split at hy
        · exact .inl ⟨_, hy⟩
        · exact hy.elim)
    · rename_i a b c hx
      cases ho : aget h a with
      | none => simp only [ho, Stp.get] at hu; cases hu
      | some ob =>
        cases hl : live ob with
        | false => simp only [ho, hl, cond_false, Stp.get] at hu; cases hu
        | true =>
          simp only [ho, hl, cond_true, Stp.get, Option.some.injEq] at hu; subst hu
          refine opOk_val fun o ho' E a' hA => ?_
          have hv' := opnd_in hA (by simp [Op.operands]) hx
          have hH := (hA.rd _ (by simp)).trans ho
          simp only [RA, RV, RC, hH] at hv'
          cases ob with
          | dead => simp [live] at hl
          | cells => exact hv'.elim
          | mapo => exact hv'.elim
          | parr ro nl k e n f =>
            obtain ⟨e1, e2⟩ := hv'
            exact ⟨.pointer (some ⟨E.ι a, b * e + c, none⟩), by simp [execOp, ho', e1], by simpa only [RA, RV, RC, hH, true_and] using e2⟩
    · rename_i a b c hx
      simp only [Stp.get, Option.some.injEq] at hu; subst hu
      exact ok_nilCheck hx (fun E y hy => by
        obtain ⟨b, p, e, _⟩ := hy
        exact .inl ⟨_, e⟩)
    · rename_i a b hx
      simp only [Stp.get, Option.some.injEq] at hu; subst hu
      exact ok_nilCheck hx (fun E y hy => .inr ⟨_, _, hy.1⟩)
    · cases hu
  · split at hu
    · rename_i a b ha hb
      exact ok_bin hT hE.1 ha hb hu
    · cases hu
  · obtain ⟨v, hv, hu⟩ := Stp.of_get hu
    exact ok_un hv hu
  · split at hu
    · rename_i v hv
      exact ok_convert hT hv hu
    · cases hu
  · split at hu
    · rename_i cs hf hcs
      simp only [Stp.get, Option.some.injEq] at hu; subst hu
      obtain ⟨vs, hvs, hcs⟩ := Option.bind_eq_some_iff.1 hcs
      exact ok_makeFunc hf hvs hcs
    · cases hu
  · split at hu
    · rename_i a b ha hb
      exact ok_makeSlice hT ha hb hu
    · cases hu
  · split at hu
    · rename_i v a b c hv ha hb hc
      exact ok_slice hT hv ha hb hc hu
    · cases hu
  · split at hu
    · rename_i p hp
      exact ok_fieldAddr hT hp hu
    · cases hu
  · split at hu
    · rename_i p n hp hn
      exact ok_indexAddr hT hp hn hu
    · cases hu
  · split at hu
    · rename_i v n hv hn
      obtain ⟨hs, hu⟩ := stp_cond hu
      refine ok_index hT hv hn (fun s e => ?_) hu
      subst e
      simp only [strOk] at hs
      split at hs
      · rename_i td htd
        refine ⟨td, htd, ?_⟩
        split at hs
        · assumption
        · cases hs
      · cases hs
    · cases hu
  · split at hu
    · rename_i l hl
      obtain ⟨v, hv, hu⟩ := Stp.of_get hu
      simp only [Stp.get, Option.some.injEq] at hu; subst hu
      exact ok_extract hl hv
    · cases hu
  · split at hu
    · rename_i b hb
      obtain ⟨vs, hvs, hu⟩ := Stp.of_get hu
      exact ok_builtin hT hb hvs hu
    · cases hu
  · cases hu
end
end Go.Ve

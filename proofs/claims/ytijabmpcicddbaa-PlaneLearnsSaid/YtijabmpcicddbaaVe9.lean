/- The evaluator ("VE"): slices that are made; appends; stores. -/
import Derived.Test.YtijabmpcicddbaaVe8
set_option linter.unusedVariables false
set_option linter.unusedSimpArgs false
namespace Go.Ve
section
variable {P : Program} {t : List (Nat × AV)} {h : List (Nat × AObj)} {nx : Nat} {u : Upd}

theorem FW.after {E E' : Env} {av : Option AV} {r : List Nat} {w : List (Nat × AObj)} {al : List AObj} (hf : FW h r w) (hin : ∀ id, id ∈ r → ∃ o, aget h id = some o ∧ (id, frzObj o) ∈ w) (hrd : ∀ id, id ∈ r → E.H id = aget h id)
    (hal : ∀ i, i < al.length → E.H (nx + i) = none) (hH : E'.H = updH E.H { v := av, rd := r, wr := w, al := al } nx) : ∀ id o, id ∈ r → aget h id = some o → E'.H id = some (frzObj o) := by
  intro id o hid ho
  rw [hH, updH_eq]
  rw [if_neg]
  · exact hf.fold hin id o hid ho
  · rintro ⟨h1, h2⟩
    have := hal (id - nx) (by simp at h2; omega)
    rw [show nx + (id - nx) = id by omega, hrd id hid, ho] at this
    cases this

theorem rowOf_rel {S : Nat → Prop} {w : World} {esz n : Nat} {l : List PV} {cs : List Value} (hl : RL (RP S w) l cs) (hn : l.length = n * esz) : ∀ j, j < n → ∀ c, c < esz → ∃ y, cs[j * esz + c]? = some y ∧ RP S w (rowOf esz l j c) y := by
  intro j hj c hc
  have hlt : j * esz + c < l.length := by
    have : (j + 1) * esz ≤ n * esz := Nat.mul_le_mul_right _ hj
    rw [Nat.add_mul] at this
    omega
  obtain ⟨y, hy, hr⟩ := hl.get (i := j * esz + c) (a := l[j * esz + c]) (by simp [hlt])
  refine ⟨y, hy, ?_⟩
  have : rowOf esz l j c = l[j * esz + c] := by simp [rowOf, List.getD, hlt]
  rw [this]
  exact hr
theorem frzAll_length : ∀ {l : List CV} {ps : List PV} {r : List Nat} {w : List (Nat × AObj)}, frzAll h l = some (ps, r, w) → ps.length = l.length
  | [], ps, r, w, hx => by simp [frzAll] at hx; obtain ⟨rfl, _, _⟩ := hx; rfl
  | x :: l, ps, r, w, hx => by
    simp only [frzAll] at hx
    split at hx
    · rename_i h1 h2
      simp at hx
      obtain ⟨rfl, _, _⟩ := hx
      simp [frzAll_length h2]
    · cases hx
theorem fillIn_length {place : Nat → Option (Nat × Nat)} : ∀ {vs : List (Nat × VV)} {cells cells' : List CV}, fillIn place cells vs = some cells' → cells'.length = cells.length
  | [], cells, cells', hf => by simp [fillIn] at hf; rw [hf]
  | (i, v) :: r, cells, cells', hf => by
    simp only [fillIn] at hf
    split at hf
    · cases hf
    · obtain ⟨_, hf⟩ := cond_some hf
      split at hf
      · rename_i c2 hsp
        rw [fillIn_length hf]
        obtain ⟨hle, rfl⟩ := splice_eq hsp
        simp
        omega
      · cases hf
theorem kinds_row {esz n : Nat} {l : List PV} (hn : l.length = n * esz) : RowK (kindsOf esz l) n (rowOf esz l) := by
  intro j hj c
  by_cases hc : c < esz
  · have hlt : j * esz + c < l.length := by
      have : (j + 1) * esz ≤ n * esz := Nat.mul_le_mul_right _ hj
      rw [Nat.add_mul] at this
      omega
    refine kindsOf_ok (i := j * esz + c) ?_ fun _ => ?_
    · simp [rowOf, List.getD, hlt]
    · rw [Nat.mul_comm, Nat.mul_add_mod, Nat.mod_eq_of_lt hc]
  · exact kindsOf_out (by omega) _
theorem kindsR_row {td : TD} {n : Nat} {l : List PV} (hn : l.length = n * td.size) : RowK (kindsR td l) n (rowOf td.size l) := by
  cases l with
  | nil =>
    intro j hj c
    have h0 : td.size = 0 := by
      have hn' : 0 = n * td.size := hn
      rcases Nat.eq_zero_or_pos td.size with h | h
      · exact h
      · have h2 : 0 < n * td.size := Nat.mul_pos (by omega) h
        omega
    exact kindsOf_out (by omega) _
  | cons x r => exact kinds_row hn
theorem ok_buildSlice {tt : Nat → Option TD} (hT : TT P tt) {T len : Nat} {ps : Array (Nat × Operand)} (hu : (evBuildSlice tt t h nx T len ps.toList).get = some u) : OpOk P (.buildSlice T len ps) t h nx u := by
  unfold evBuildSlice at hu
  split at hu
  · rename_i e sz by' z phl htd
    have ht := hT T _ htd
    split at hu
    · rename_i ed hed
      have he := hT e ed hed
      cases hle : Nat.ble (len * ed.size) 65536 with
      | false => simp [hle, Stp.get] at hu
      | true =>
        simp only [hle, cond_true] at hu
        have hle' := Nat.le_of_ble_eq_true hle
        split at hu
        · rename_i vs hvs
          split at hu
          · rename_i cells hf
            have hcl : cells.length = len * ed.size := by rw [fillIn_length hf, rep_length]; simp [zeros, he.len]
            have base : ∀ {u : Upd} (E : Env) (a : Act), Ahead E a t h nx (.buildSlice T len ps) u → ∃ cs : Array Value, (Instr.buildSlice T len (ps.map fun x => (x.1, a.eval x.2))).run P E.w = .ok (.slice (some ⟨E.w.heap.size, 0, none⟩) len len) (E.w.alloc (.cells cs e)) ∧ RL (RC E) cells cs.toList := by
              intro u E a hA
              obtain ⟨zv, hz, hzl⟩ := he.run_zero E.w
              have hps := parts_rel hvs (fun p hp => by simp [Op.operands]; exact ⟨p.1, by simpa using hp⟩) hA
              have hrow : RL (RC E) (rep len (zeros ed.zero)) ((Array.range (len * ed.size)).map (fun i => zv.cells[i % zv.cells.size]!)).toList := by
                rw [← he.len]
                exact row_zeros he.one len zv.cells hzl
              obtain ⟨cs, h1, h2⟩ := fill_rel hf hps hrow
              refine ⟨cs, ?_, h2⟩
              have h24 : ¬ (len * ed.size > 2 ^ 24) := by omega
              have hmap : (ps.map fun (x : Nat × Operand) => (x.1, a.eval x.2)).toList = ps.toList.map fun p => (p.1, a.eval p.2) := by simp
              simp only [Instr.buildSlice, Sem.run_bind, Go.run_underlying (und_slc ht rfl), Result.andThen_ok, he.run_sizeOf, Sem.run_ite, if_neg h24]
              by_cases h0 : len * ed.size = 0
              · have hr0 : ((Array.range (len * ed.size)).map (fun i => (#[] : Array Value)[i % (#[] : Array Value).size]!)) = ((Array.range (len * ed.size)).map (fun i => zv.cells[i % zv.cells.size]!)) := by rw [h0]; simp
                simp only [if_pos h0, Sem.run_pure, Result.andThen_ok]
                rw [hr0]
                simp only [hmap, h1, Sem.run_bind, run_new, Result.andThen_ok, Sem.run_pure]
              · simp only [if_neg h0, Sem.run_bind, hz, Sem.run_pure, Result.andThen_ok, hmap, h1, run_new]
            split at hu
            · rename_i l r w hfr
              simp only [Stp.get, Option.some.injEq] at hu
              subst hu
              have hfw := frzAll_fw hfr
              refine opOk_new hfw fun o ho E a hA => ?_
              obtain ⟨cs, hrun, hl⟩ := base E a hA
              have hll := frzAll_length hfr
              refine ⟨.slice (some ⟨E.w.heap.size, 0, none⟩) len len, cs, e, E.w.alloc (.cells cs e), by simp [execOp, ho, hrun], ⟨rfl, rfl, rfl, rfl⟩, fun E' hev hH hob hnx hb => ?_⟩
              have hfz := FW.after hfw (frzAll_all_in hfr) hA.rd hA.al hH
              have hlp := frzAll_rel hev (fun id o' h1 _ h2 => hob id o' h1 h2) hfr hA.rd hfz hl
              have hn : l.length = len * ed.size := by rw [hll, hcl]
              have hsz : cs.size = len * ed.size := by rw [← hn, hlp.length]; simp
              refine ⟨⟨kindsR_row hn, .inr ⟨rfl, cs, hb, by omega, fun j hj c hc => ?_, fun e => by cases e⟩⟩, fun hok hι => ?_⟩
              · obtain ⟨y, hy, hr⟩ := rowOf_rel hlp hn j hj c hc
                exact ⟨y, by simpa using hy, hr⟩
              · simp only [RA, RV, RC, hnx]
                exact ⟨Nat.le_refl _, .inr ⟨rfl, len, cs, by rw [hι], Nat.le_refl _, hb, by omega⟩⟩
            · simp only [Stp.get, Option.some.injEq] at hu
              subst hu
              refine opOk_new FW.nil fun o ho E a hA => ?_
              obtain ⟨cs, hrun, hl⟩ := base E a hA
              refine ⟨.slice (some ⟨E.w.heap.size, 0, none⟩) len len, cs, e, E.w.alloc (.cells cs e), by simp [execOp, ho, hrun], ⟨rfl, rfl, rfl, rfl⟩, fun E' hev hH hob hnx hb => ⟨⟨cs, hb, hl.mono fun _ _ => RC.mono hev, fun e => by cases e⟩, fun hok hι => ?_⟩⟩
              simp only [RA, RV, RC, hnx]
              exact ⟨by omega, _, _, rfl, Nat.le_refl _, fun _ => by rw [hι]⟩
          · simp [Stp.get] at hu
        · simp [Stp.get] at hu
    · simp [Stp.get] at hu
  · simp [Stp.get] at hu

theorem run_mk {tt : Nat → Option TD} {T e : Nat} {td ed : TD} (ht : TdOk P T td) (hk : td.k = .slc e) (he : TdOk P e ed) {k k' : IntKind} {l c : Int} (h0 : 0 ≤ l) (h1 : l ≤ c) (h2 : c ≤ 1073741824) (hb : ed.bytes ≤ 65536) (w : World) :
    ∃ zv : Value, zv.cells.toList = ed.zero ∧ (Instr.makeSlice T (.int k l) (.int k' c)).run P w = .ok (.slice (some ⟨w.heap.size, 0, none⟩) l.toNat c.toNat) (w.alloc (.cells ((Array.range (c.toNat * ed.size)).map (fun i => zv.cells[i % zv.cells.size]!)) e)) := by
  obtain ⟨zv, hz, hzl⟩ := he.run_zero w
  obtain ⟨i, z', hi, hi1, hi2, hi3, hi4⟩ := he.run_typeInfo w
  refine ⟨zv, hzl, ?_⟩
  have e1 : IntKind.i64.wrap l = l := IntWalk.i64_in _ (by omega)
  have e2 : IntKind.i64.wrap c = c := IntWalk.i64_in _ (by omega)
  have hle : (ed.bytes : Int) * c ≤ 65536 * 1073741824 := Int.mul_le_mul (by omega) (by omega) (by omega) (by omega)
  have f1 : ¬ (c < 0) := by omega
  have f2 : ¬ ((ed.bytes : Int) * c > 2 ^ 48) := by omega
  have f3 : ¬ (l < 0) := by omega
  have f4 : ¬ (l > c) := by omega
  simp only [Instr.makeSlice, Sem.run_bind, Go.run_underlying (und_slc ht hk), Result.andThen_ok, asInt, asIntOf, Sem.run_pure, hi, hi2, e1, e2]
  simp only [decide_eq_false f1, decide_eq_false f2, decide_eq_false f3, decide_eq_false f4, Bool.or_false, Bool.false_or, Bool.false_eq_true, if_false, Sem.run_pure, Result.andThen_ok, Sem.run_bind, run_askRoom, he.run_sizeOf, Sem.run_ite]
  by_cases hz0 : c.toNat * ed.size = 0
  · simp only [if_pos hz0, Result.andThen_ok, run_new, newRow]
    rw [hz0]
    simp
    rw [show Array.range 0 = #[] from rfl]
    simp
  · simp only [if_neg hz0, Sem.run_bind, hz, Result.andThen_ok, Sem.run_pure, newRow, run_newObj, World.alloc_eq]
theorem ok_makeSlice {tt : Nat → Option TD} (hT : TT P tt) {T : Nat} {x y : Operand} {k k' : IntKind} {l c : Int} (hx : opnd t x = some (.val (.int k l))) (hy : opnd t y = some (.val (.int k' c))) (hu : (evMakeSlice tt nx T l c).get = some u) : OpOk P (.makeSlice T x y) t h nx u := by
  unfold evMakeSlice at hu
  split at hu
  · rename_i e sz by' z phl htd
    have ht := hT T _ htd
    split at hu
    · rename_i ed hed
      have he := hT e ed hed
      cases hb : Nat.ble ed.bytes 65536 with
      | false => simp [hb, Stp.get] at hu
      | true =>
        simp only [hb, cond_true] at hu
        obtain ⟨hc, hu⟩ := test_get hu rfl
        simp only [Bool.and_eq_true, decide_eq_true_eq] at hc
        obtain ⟨⟨h0, h1⟩, h2⟩ := hc
        simp only [Stp.get, Option.some.injEq] at hu
        subst hu
        refine opOk_new FW.nil fun o ho E a hA => ?_
        obtain ⟨e1, _⟩ := opnd_in hA (by simp [Op.operands]) hx
        obtain ⟨e2, _⟩ := opnd_in hA (by simp [Op.operands]) hy
        obtain ⟨zv, hzl, hr⟩ := run_mk (P := P) (tt := tt) (k := k) (k' := k') ht rfl he h0 h1 h2 (Nat.le_of_ble_eq_true hb) E.w
        refine ⟨.slice (some ⟨E.w.heap.size, 0, none⟩) l.toNat c.toNat, ((Array.range (c.toNat * ed.size)).map (fun i => zv.cells[i % zv.cells.size]!)), e, E.w.alloc (.cells ((Array.range (c.toNat * ed.size)).map (fun i => zv.cells[i % zv.cells.size]!)) e), by simp only [execOp, ho, e1, e2, hr, Sem.run_bind, Result.andThen_ok, Sem.run_pure], ⟨rfl, rfl, rfl, rfl⟩, fun E' hev hH hob hnx hb' => ⟨?_, fun hok hι => ?_⟩⟩
        · have hrow : RL (RC E') (rep c.toNat (zeros ed.zero)) ((Array.range (c.toNat * ed.size)).map (fun i => zv.cells[i % zv.cells.size]!)).toList := by
            rw [← he.len]
            exact row_zeros he.one c.toNat zv.cells hzl
          have hlc : l.toNat * ed.size ≤ c.toNat * ed.size := Nat.mul_le_mul_right _ (by omega)
          refine ⟨fun j hj q => ?_, .inr ⟨rfl, _, hb', by simp; exact hlc, fun j hj q hq => ?_, fun e => by cases e⟩⟩
          · by_cases hq : q < ed.size
            · have hlt : q < ed.zero.length := by rw [he.len]; exact hq
              refine kindsOf_ok (i := q) ?_ fun _ => (Nat.mod_eq_of_lt hq).symm
              simp [List.getElem?_map, hlt, List.getD]
            · exact kindsOf_out (by omega) _
          · have hlt : j * ed.size + q < c.toNat * ed.size := by
              have : (j + 1) * ed.size ≤ l.toNat * ed.size := Nat.mul_le_mul_right _ hj
              rw [Nat.add_mul] at this
              omega
            have hzl' : (zeros ed.zero).length = ed.size := by simp [zeros, he.len]
            have hg : (rep c.toNat (zeros ed.zero))[j * ed.size + q]? = some (.pv (.val (ed.zero.getD q undef))) := by
              rw [rep_get _ _ _ (by rw [hzl']; exact hlt), hzl', Nat.mul_comm, Nat.mul_add_mod, Nat.mod_eq_of_lt hq]
              have : q < ed.zero.length := by rw [he.len]; exact hq
              simp [zeros, this, List.getD]
            obtain ⟨y, hy, hr⟩ := hrow.get hg
            rw [Array.getElem?_toList] at hy
            exact ⟨y, hy, hr⟩
        · simp only [RA, RV, RC, hnx]
          exact ⟨Nat.le_refl _, .inr ⟨rfl, c.toNat, _, by rw [hι], by omega, hb', by simp⟩⟩
    · simp [Stp.get] at hu
  · simp [Stp.get] at hu
end
end Go.Ve

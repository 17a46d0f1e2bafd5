/- The evaluator ("VE"): operations that make memory. -/
import Derived.Test.YtijabmpcicddbaaVe7
import Derived.Deep.AppendSrc
set_option linter.unusedVariables false
set_option linter.unusedSimpArgs false
namespace Go.Ve

/-! ### cells written -/
theorem setCells_spec (b : Nat) : ∀ (vs : List Value) (o : Nat) (w : World) (cs : Array Value) (T : TypeId) (fr : Nat × Nat), w.heap[b]? = some (.cells cs T fr) → o + vs.length ≤ cs.size →
    ∃ cs' : Array Value, (w.setCells b o vs).heap[b]? = some (.cells cs' T fr) ∧ cs'.toList = cs.toList.take o ++ vs ++ cs.toList.drop (o + vs.length)
  | [], o, w, cs, T, fr, h, _ => ⟨cs, h, by simp⟩
  | v :: r, o, w, cs, T, fr, h, hl => by
    simp only [List.length_cons] at hl
    have h1 : (w.setCell ⟨b, o, none⟩ v).heap[b]? = some (.cells (cs.setIfInBounds o v) T fr) := by
      simp only [World.setCell, Array.getElem?_modify, if_true, h, Option.map_some, Option.isSome_none, Bool.false_eq_true, if_false]
    obtain ⟨cs', h2, h3⟩ := setCells_spec b r (o + 1) (w.setCell ⟨b, o, none⟩ v) (cs.setIfInBounds o v) T fr h1 (by simp; omega)
    refine ⟨cs', h2, ?_⟩
    rw [h3]
    simp only [Array.toList_setIfInBounds, List.length_cons]
    have ho : o < cs.toList.length := by simpa using (show o < cs.size by omega)
    rw [List.take_set, List.drop_set_of_lt (by omega), List.take_succ_eq_append_getElem ho]
    have : (cs.toList.take o ++ [cs.toList[o]]).set o v = cs.toList.take o ++ [v] := by
      have hle : (cs.toList.take o).length = o := by rw [List.length_take]; omega
      rw [List.set_append_right _ _ (by omega), hle]
      simp
    rw [this, show o + 1 + r.length = o + (r.length + 1) by omega]
    simp
theorem setCells_other (b : Nat) : ∀ (vs : List Value) (o : Nat) (w : World) (k : Nat), k ≠ b → (w.setCells b o vs).heap[k]? = w.heap[k]?
  | [], _, _, _, _ => rfl
  | v :: r, o, w, k, hk => by
    rw [World.setCells, setCells_other b r _ _ k hk]
    exact heap_setCell_other w ⟨b, o, none⟩ k v hk
theorem setCells_rest (b : Nat) : ∀ (vs : List Value) (o : Nat) (w : World), (w.setCells b o vs).os = w.os ∧ (w.setCells b o vs).tape = w.tape ∧ (w.setCells b o vs).output = w.output ∧ (w.setCells b o vs).heap.size = w.heap.size
  | [], _, _ => ⟨rfl, rfl, rfl, rfl⟩
  | v :: r, o, w => by
    obtain ⟨h1, h2, h3, h4⟩ := setCells_rest b r (o + 1) (w.setCell ⟨b, o, none⟩ v)
    exact ⟨h1, h2, h3, by rw [World.setCells, h4, World.size_setCell]⟩

/-! ### what is given up, or gone -/
/-- an object that is given up (nobody writes it any more), or gone -/
inductive Wk : AObj → AObj → Prop where
  | cells {ro l} : (∀ x, x ∈ l → isPv x = true) → Wk (.cells ro l) (.cells true l)
  | parr {ro nl k e n f} : Wk (.parr ro nl k e n f) (.parr true nl k e n f)
  | dead {ro nl k e n f} : Wk (.parr ro nl k e n f) .dead
theorem Wk.shape {o o' : AObj} (h : Wk o o') : shape o o' = true := by cases h <;> simp [Ve.shape]
theorem Wk.rw {o o' : AObj} (h : Wk o o') : rw o' = false := by cases h <;> rfl
theorem Wk.blkd {o o' : AObj} (h : Wk o o') (hb : blkd o' = true) : blkd o = true := by cases h <;> simp_all [Ve.blkd]

def foldH (H : Heap) (wr : List (Nat × AObj)) : Heap := wr.foldl (fun H p => fun y => if y = p.1 then some p.2 else H y) H
theorem foldH_spec (wr : List (Nat × AObj)) : ∀ (H : Heap) (y : Nat), (∃ p, p ∈ wr ∧ p.1 = y ∧ foldH H wr y = some p.2) ∨ ((∀ p, p ∈ wr → p.1 ≠ y) ∧ foldH H wr y = H y) := by
  induction wr with
  | nil => intro H y; exact .inr ⟨fun p hp => by simp at hp, rfl⟩
  | cons q r ih =>
    intro H y
    rcases ih (fun y => if y = q.1 then some q.2 else H y) y with ⟨p, hp, he, h⟩ | ⟨hne, h⟩
    · exact .inl ⟨p, by simp [hp], he, h⟩
    · by_cases hy : y = q.1
      · refine .inl ⟨q, by simp, hy.symm, ?_⟩
        show foldH _ r y = _
        rw [h]
        simp [hy]
      · refine .inr ⟨fun p hp => ?_, ?_⟩
        · rcases List.mem_cons.1 hp with rfl | hp
          · exact fun e => hy e.symm
          · exact hne p hp
        · show foldH _ r y = _
          rw [h]
          simp [hy]
theorem updH_eq (H : Heap) (u : Upd) (nx y : Nat) : updH H u nx y = if nx ≤ y ∧ y < nx + u.al.length then u.al[y - nx]? else foldH H u.wr y := rfl

/-- one new block; what is written is only given up or gone -/
theorem After.make0 {E : Env} {nx : Nat} {u : Upd} {v : Value} {o : AObj} {w' : World} (hE : E.ok) (hn : E.H nx = none) (hal : u.al = [o]) (hw : ∀ p, p ∈ u.wr → ∃ q, E.H p.1 = some q ∧ Wk q p.2)
    (hos : w'.os = E.w.os) (htape : w'.tape = E.w.tape) (hout : w'.output = E.w.output) (hsize : w'.heap.size = E.w.heap.size + 1) (hold : ∀ b, b < E.w.heap.size → w'.heap[b]? = E.w.heap[b]?)
    (hnew : ∀ E' : Env, Ev E E' → E'.H = updH E.H u nx → (∀ id o', E.H id ≠ none → E'.H id = some o' → RO E' id o') → E'.H nx = some o → E'.ι nx = E.w.heap.size → E'.w = w' → RO E' nx o)
    (hv : ∀ E' : Env, Ev E E' → E'.H = updH E.H u nx → E'.ok → E'.H nx = some o → E'.ι nx = E.w.heap.size → E'.w = w' → ∀ av, u.v = some av → RA E' av v) : ∃ E', E'.w = w' ∧ After E nx u v E' := by
  let E' : Env := ⟨fun i => if i = nx then E.w.heap.size else E.ι i, updH E.H u nx, E.D, w'⟩
  have hnx : E'.H nx = some o := by
    show updH E.H u nx nx = _
    rw [updH_eq, if_pos (by simp [hal]), hal]
    simp
  have hoth : ∀ id, id ≠ nx → E'.H id = foldH E.H u.wr id := by
    intro id hid
    show updH E.H u nx id = _
    rw [updH_eq, if_neg (by rw [hal]; simp; omega)]
  have hcase : ∀ id, id ≠ nx → (∃ p q, p ∈ u.wr ∧ p.1 = id ∧ E.H id = some q ∧ Wk q p.2 ∧ E'.H id = some p.2) ∨ ((∀ p, p ∈ u.wr → p.1 ≠ id) ∧ E'.H id = E.H id) := by
    intro id hid
    rw [hoth id hid]
    rcases foldH_spec u.wr E.H id with ⟨p, hp, he, h⟩ | ⟨hne, h⟩
    · obtain ⟨q, hq, hwk⟩ := hw p hp
      exact .inl ⟨p, q, hp, he, he ▸ hq, hwk, h⟩
    · exact .inr ⟨hne, h⟩
  have hne : ∀ id q, E.H id = some q → id ≠ nx := by
    intro id q h e
    rw [e, hn] at h
    cases h
  have hι : ∀ id q, E.H id = some q → E'.ι id = E.ι id := fun id q h => if_neg (hne id q h)
  have hlt : ∀ id q, E.H id = some q → blkd q = true → E.ι id < E.w.heap.size := fun id q h hl => RO.lt (hE.obj id q h) hl
  have g : Go1 E E' := {
    D := rfl
    size := by show E.w.heap.size ≤ w'.heap.size; omega
    i := hι
    h := fun id q hq => by
      rcases hcase id (hne id q hq) with ⟨p, q', hp, he, hq', hwk, h⟩ | ⟨_, h⟩
      · rw [hq] at hq'
        injection hq' with hq'
        subst hq'
        refine ⟨p.2, h, hwk.shape, fun ⟨ro, l, e⟩ => ?_⟩
        subst e
        generalize p.2 = z at hwk
        cases hwk
        rfl
      · exact ⟨q, by rw [h, hq], by cases q <;> simp [shape], fun ⟨_, _, e⟩ => by subst e; rfl⟩
    c := fun b hb => hold b hb.1
    r := fun id o' ho' hl => by
      by_cases hid : id = nx
      · subst hid
        exact .inr ⟨hn, by show E.w.heap.size ≤ (if id = id then E.w.heap.size else E.ι id); rw [if_pos rfl]; omega⟩
      · rcases hcase id hid with ⟨p, q', hp, he, hq', hwk, h⟩ | ⟨_, h⟩
        · refine .inl ⟨q', hq', fun hr => ?_⟩
          rw [h] at ho'
          injection ho' with ho'
          subst ho'
          rw [hwk.rw] at hr
          cases hr
        · exact .inl ⟨o', by rw [← h]; exact ho', fun hr => hr⟩
    u := fun i j oi oj hi hj h1 h2 hij => by
      have : ∀ k ok, E'.H k = some ok → E.H k = none → k = nx := by
        intro k ok hk hk0
        refine Classical.byContradiction fun hkn => ?_
        rcases hcase k hkn with ⟨p, q', hp, he, hq', hwk, h⟩ | ⟨_, h⟩
        · rw [hk0] at hq'; cases hq'
        · rw [h, hk0] at hk; cases hk
      exact absurd ((this i oi hi h1).trans (this j oj hj h2).symm) hij
    z := fun id q q' cs' hq hq' hl hb => by
      refine ⟨cs', Env.blk_same hb (hι id q hq) (hold _ (Env.blk_lt hb)), rfl⟩ }
  have hev := g.ev
  have hrest : ∀ id o', id ≠ nx → E'.H id = some o' → RO E' id o' := by
    intro id o' hid ho'
    rcases hcase id hid with ⟨p, q', hp, he, hq', hwk, h⟩ | ⟨_, h⟩
    · rw [h] at ho'
      injection ho' with ho'
      subst ho'
      have hro := hE.obj id q' hq'
      have hS : blkd q' = true → E'.S (E'.ι id) := by
        intro hl
        have hlq := hlt id q' hq' hl
        rw [hι id q' hq']
        refine ⟨by show _ < w'.heap.size; omega, ?_, fun j oj hj hr => ?_⟩
        · show ¬ E.D _
          cases hrq : Ve.rw q' with
          | true => exact hE.out id q' hq' hrq
          | false =>
            cases q' with
            | dead => simp [blkd] at hl
            | cells ro l => cases ro with
              | false => simp [Ve.rw] at hrq
              | true => obtain ⟨_, _, _, hs⟩ := hro; exact (hs rfl).2.1
            | parr ro nl k e n f =>
              cases nl with
              | true => simp [blkd] at hl
              | false => cases ro with
                | false => simp [Ve.rw] at hrq
                | true => obtain ⟨_, _, _, _, _, hs⟩ := hro.same rfl; exact (hs rfl).2.1
            | mapo => simp [Ve.rw] at hrq
        · by_cases hjn : j = nx
          · subst hjn
            show (if j = j then E.w.heap.size else E.ι j) ≠ _
            rw [if_pos rfl]
            omega
          · rcases hcase j hjn with ⟨p2, q2, hp2, he2, hq2, hwk2, h2⟩ | ⟨_, h2⟩
            · rw [h2] at hj
              injection hj with hj
              subst hj
              rw [hwk2.rw] at hr
              cases hr
            · rw [h2] at hj
              rw [hι j oj hj]
              refine hE.inj j id oj q' hj hq' hr hl fun e => ?_
              subst e
              rw [h2] at h
              rw [hj] at h
              injection h with h
              subst h
              rw [hwk.rw] at hr
              cases hr
      have hro' : RO E' id q' := RO.mono hev hro hq' fun hb => hold _ (hlt id q' hq' hb)
      generalize p.2 = z at hwk
      cases hwk with
      | cells _ =>
        obtain ⟨cs, hb, hl, _⟩ := hro'
        exact ⟨cs, hb, hl, fun _ => hS rfl⟩
      | parr =>
        refine ⟨hro'.1, ?_⟩
        rcases hro'.2 with hh | ⟨hnl, cs, hb, h1, h2, _⟩
        · exact .inl hh
        · exact .inr ⟨hnl, cs, hb, h1, h2, fun _ => hS (by subst hnl; rfl)⟩
      | dead => trivial
    · rw [h] at ho'
      exact RO.mono hev (hE.obj id o' ho') ho' fun hb => hold _ (hlt id o' ho' hb)
  have hok : E'.ok := g.ok hE fun id o' ho' => by
    by_cases hid : id = nx
    · subst hid
      rw [hnx] at ho'
      injection ho' with ho'
      subst ho'
      exact .inr (hnew E' hev rfl (fun id o' h1 h2 => hrest id o' (fun e => by subst e; exact h1 hn) h2) hnx (if_pos rfl) rfl)
    · exact .inr (hrest id o' hid ho')
  refine ⟨E', rfl, rfl, hok, hev, ⟨hos, htape, hout, by show E.w.heap.size ≤ w'.heap.size; omega⟩, hv E' hev rfl hok hnx (if_pos rfl) rfl, rfl, fun b hb => hold b (hE.dom b hb)⟩
theorem After.make {E : Env} {nx : Nat} {u : Upd} {v : Value} {o : AObj} {cs : Array Value} {T : TypeId} {fr : Nat × Nat} {w' : World} (hE : E.ok) (hn : E.H nx = none) (hal : u.al = [o]) (hw : ∀ p, p ∈ u.wr → ∃ q, E.H p.1 = some q ∧ Wk q p.2)
    (hos : w'.os = E.w.os) (htape : w'.tape = E.w.tape) (hout : w'.output = E.w.output) (hsize : w'.heap.size = E.w.heap.size + 1) (hold : ∀ b, b < E.w.heap.size → w'.heap[b]? = E.w.heap[b]?)
    (hblk : w'.heap[E.w.heap.size]? = some (.cells cs T fr)) (hfr : FrOk cs.size fr)
    (hnew : ∀ E' : Env, Ev E E' → E'.H = updH E.H u nx → (∀ id o', E.H id ≠ none → E'.H id = some o' → RO E' id o') → E'.H nx = some o → E'.blk nx cs → RO E' nx o)
    (hv : ∀ E' : Env, Ev E E' → E'.H = updH E.H u nx → E'.ok → E'.H nx = some o → E'.ι nx = E.w.heap.size → E'.blk nx cs → ∀ av, u.v = some av → RA E' av v) : ∃ E', E'.w = w' ∧ After E nx u v E' :=
  After.make0 hE hn hal hw hos htape hout hsize hold (fun E' h1 h2 h3 h4 h5 h6 => hnew E' h1 h2 h3 h4 ⟨T, fr, by rw [h5, h6]; exact hblk, hfr⟩) fun E' h1 h2 h3 h4 h5 h6 => hv E' h1 h2 h3 h4 h5 ⟨T, fr, by rw [h5, h6]; exact hblk, hfr⟩

/-! ### rows that are filled -/
section
variable {P : Program} {t : List (Nat × AV)} {h : List (Nat × AObj)} {nx : Nat} {u : Upd}

theorem cells_one {v : Value} (hv : v.oneCell' = true) : v.cells = #[v] := by cases v <;> simp_all [Value.oneCell', Value.cells]
theorem RV.cells {E : Env} {x : VV} {y : Value} (hr : RV E x y) : RL (RC E) x.cells y.cells.toList := by
  cases x with
  | c x => rw [cells_one (RC.one hr)]; exact .cons hr .nil
  | agg l => obtain ⟨cs, rfl, hl⟩ := hr; exact hl
theorem zeros_rel {E : Env} {l : List Value} (h1 : ∀ v, v ∈ l → v.oneCell' = true) : RL (RC E) (zeros l) l := by
  induction l with
  | nil => exact .nil
  | cons v l ih => exact .cons ⟨rfl, h1 v (by simp)⟩ (ih fun x hx => h1 x (by simp [hx]))
theorem rep_get (l : List CV) : ∀ (n i : Nat), i < n * l.length → (rep n l)[i]? = l[i % l.length]?
  | 0, i, hi => by simp at hi
  | n + 1, i, hi => by
    unfold rep
    by_cases h : i < l.length
    · rw [List.getElem?_append_left h, Nat.mod_eq_of_lt h]
    · rw [List.getElem?_append_right (by omega), rep_get l n (i - l.length) (by rw [Nat.add_mul] at hi; omega)]
      congr 1
      conv => rhs; rw [show i = (i - l.length) + l.length by omega]
      rw [Nat.add_mod_right]
theorem rep_length (l : List CV) : ∀ n, (rep n l).length = n * l.length
  | 0 => by simp [rep]
  | n + 1 => by simp [rep, rep_length l n, Nat.add_mul]; omega
theorem row_zeros {E : Env} {z : List Value} (h1 : ∀ v, v ∈ z → v.oneCell' = true) (n : Nat) (za : Array Value) (hz : za.toList = z) :
    RL (RC E) (rep n (zeros z)) ((Array.range (n * z.length)).map (fun i => za[i % za.size]!)).toList := by
  have hzl : (zeros z).length = z.length := by simp [zeros]
  have hzs : za.size = z.length := by rw [← hz]; simp
  refine RL.of_get (by rw [rep_length, hzl]; simp) fun i a b ha hb => ?_
  have hi : i < n * z.length := by
    have := (List.getElem?_eq_some_iff.1 ha).1
    rw [rep_length, hzl] at this
    exact this
  rw [rep_get _ _ _ (by rw [hzl]; exact hi), hzl] at ha
  have hpos : 0 < z.length := Nat.pos_of_ne_zero fun e => by rw [e] at hi; simp at hi
  have hm : i % z.length < z.length := Nat.mod_lt _ hpos
  obtain ⟨y, hy, hr⟩ := (zeros_rel (E := E) h1).get ha
  have hb' : b = y := by
    simp only [Array.toList_map, Array.toList_range, List.getElem?_map, List.getElem?_range hi, Option.map_some, Option.some.injEq] at hb
    rw [← hb, hzs]
    have : za[i % z.length]? = some y := by rw [← Array.getElem?_toList, hz]; exact hy
    rw [getElem!_def, this]
  rw [hb']
  exact hr

theorem splice_eq {l xs r : List CV} {off : Nat} (hs : splice l off xs = some r) : off + xs.length ≤ l.length ∧ r = l.take off ++ xs ++ l.drop (off + xs.length) := by
  unfold splice at hs
  cases hb : Nat.ble (off + xs.length) l.length with
  | false => simp only [hb, cond_false] at hs; cases hs
  | true =>
    simp only [hb, cond_true, Option.some.injEq] at hs
    exact ⟨Nat.le_of_ble_eq_true hb, hs.symm⟩
theorem foldl_set : ∀ (vs : List Value) (k off : Nat) (cs : Array Value), off + k + vs.length ≤ cs.size →
    ((vs.zipIdx k).foldl (fun (cs : Array Value) (p : Value × Nat) => cs.setIfInBounds (off + p.2) p.1) cs).toList = cs.toList.take (off + k) ++ vs ++ cs.toList.drop (off + k + vs.length)
  | [], k, off, cs, _ => by simp
  | v :: r, k, off, cs, hl => by
    simp only [List.length_cons] at hl
    rw [List.zipIdx_cons, List.foldl_cons, foldl_set r (k + 1) off _ (by simp; omega)]
    simp only [Array.toList_setIfInBounds, List.length_cons]
    have ho : off + k < cs.toList.length := by simpa using (show off + k < cs.size by omega)
    rw [List.take_set, List.drop_set_of_lt (by omega), show off + (k + 1) = off + k + 1 by omega, List.take_succ_eq_append_getElem ho]
    have : (cs.toList.take (off + k) ++ [cs.toList[off + k]]).set (off + k) v = cs.toList.take (off + k) ++ [v] := by
      have hle : (cs.toList.take (off + k)).length = off + k := by rw [List.length_take]; omega
      rw [List.set_append_right _ _ (by omega), hle]
      simp
    rw [this, show off + k + 1 + r.length = off + k + (r.length + 1) by omega]
    simp
inductive RParts (E : Env) : List (Nat × VV) → List (Nat × Value) → Prop where
  | nil : RParts E [] []
  | cons {i v y l r} : RV E v y → RParts E l r → RParts E ((i, v) :: l) ((i, y) :: r)
theorem parts_rel {E : Env} {a : Act} {op : Op} : ∀ {ps : List (Nat × Operand)} {vs : List (Nat × VV)}, parts t ps = some vs → (∀ p, p ∈ ps → p.2 ∈ op.operands.toList) → Ahead E a t h nx op u → RParts E vs (ps.map fun p => (p.1, a.eval p.2))
  | [], vs, hv, _, _ => by simp [parts] at hv; subst hv; exact .nil
  | (i, x) :: r, vs, hv, hm, hA => by
    simp only [parts] at hv
    split at hv
    · rename_i v vs' h1 h2
      injection hv with hv
      subst hv
      exact .cons (opv_in hA (hm (i, x) (by simp)) h1) (parts_rel h2 (fun y hy => hm y (by simp [hy])) hA)
    · cases hv
theorem fill_rel {E : Env} {place : Nat → Option (Nat × Nat)} : ∀ {vs : List (Nat × VV)} {ps : List (Nat × Value)} {cells cells' : List CV} {cs : Array Value}, fillIn place cells vs = some cells' → RParts E vs ps → RL (RC E) cells cs.toList →
    ∃ cs', Instr.fill place cs ps = some cs' ∧ RL (RC E) cells' cs'.toList
  | [], ps, cells, cells', cs, hf, hp, hl => by
    cases hp
    simp only [fillIn, Option.some.injEq] at hf
    subst hf
    exact ⟨cs, rfl, hl⟩
  | (i, v) :: r, ps, cells, cells', cs, hf, hp, hl => by
    cases hp with
    | cons hv hr =>
      rename_i y r'
      simp only [fillIn] at hf
      split at hf
      · cases hf
      · rename_i off size hpl
        cases hb : Nat.beq v.cells.length size with
        | false => simp [hb] at hf
        | true =>
          simp only [hb, cond_true] at hf
          split at hf
          · rename_i c2 hsp
            obtain ⟨hle, rfl⟩ := splice_eq hsp
            have hvc := hv.cells
            have hlen := hvc.length
            have hcl := hl.length
            have hsz := Nat.eq_of_beq_eq_true hb
            have hy : y.cells.size = size := by rw [← hsz, hlen]; simp
            have hf2 := foldl_set y.cells.toList 0 off cs (by simp at hcl; simp; omega)
            obtain ⟨cs', h1, h2⟩ := fill_rel (cs := (y.cells.toList.zipIdx).foldl (fun (cs : Array Value) (p : Value × Nat) => cs.setIfInBounds (off + p.2) p.1) cs) hf hr (by
              rw [hf2]
              simp only [Nat.add_zero]
              refine ((hl.take off).append hvc).append ?_
              rw [hlen]
              exact hl.drop _)
            refine ⟨cs', ?_, h2⟩
            have hcond : ¬ (y.cells.size ≠ size ∨ off + y.cells.size > cs.size) := by
              simp at hcl
              intro h3
              rcases h3 with h3 | h3
              · exact h3 hy
              · omega
            simp only [Instr.fill, hpl]
            rw [if_neg (by simpa using hcond), ← h1]
            congr 1
            rw [← Array.foldl_toList, Array.toList_zipIdx]
          · cases hf

/-! ### what is given up -/
def frzObj : AObj → AObj
  | .cells _ l => .cells true l
  | .parr _ nl k e n f => .parr true nl k e n f
  | o => o
def FW (h : List (Nat × AObj)) (r : List Nat) (w : List (Nat × AObj)) : Prop := ∀ q, q ∈ w → q.1 ∈ r ∧ ∃ o, aget h q.1 = some o ∧ q.2 = frzObj o ∧ Wk o (frzObj o)
theorem cond_some {α : Type} {b : Bool} {x : Option α} {y : α} (hc : (bif b then x else none) = some y) : b = true ∧ x = some y := by
  cases b with
  | true => exact ⟨rfl, hc⟩
  | false => cases hc
theorem FW.nil {r : List Nat} : FW h r [] := fun q hq => by simp at hq
theorem frz_fw {x : CV} {p : PV} {r : List Nat} {w : List (Nat × AObj)} (hx : frz h x = some (p, r, w)) : FW h r w := by
  unfold frz at hx
  split at hx
  · simp at hx; obtain ⟨_, _, rfl⟩ := hx; exact FW.nil
  · split at hx
    · rename_i heq
      simp at hx
      obtain ⟨_, rfl, rfl⟩ := hx
      intro q hq
      simp at hq
      subst hq
      exact ⟨by simp, _, heq, rfl, .parr⟩
    all_goals cases hx
  · split at hx
    · rename_i heq
      simp at hx
      obtain ⟨_, rfl, rfl⟩ := hx
      intro q hq
      simp at hq
      subst hq
      exact ⟨by simp, _, heq, rfl, .parr⟩
    · cases hx
  · split at hx
    · rename_i heq
      simp at hx
      obtain ⟨_, rfl, rfl⟩ := hx
      intro q hq
      simp at hq
      subst hq
      exact ⟨by simp, _, heq, rfl, .parr⟩
    · cases hx
  · split at hx
    · rename_i heq
      obtain ⟨hall, hx⟩ := cond_some hx
      simp at hx
      obtain ⟨_, rfl, rfl⟩ := hx
      intro q hq
      simp at hq
      subst hq
      exact ⟨by simp, _, heq, rfl, .cells fun y hy => List.all_eq_true.1 hall y hy⟩
    · cases hx
  all_goals (cases hx)
theorem frzAll_fw : ∀ {l : List CV} {ps : List PV} {r : List Nat} {w : List (Nat × AObj)}, frzAll h l = some (ps, r, w) → FW h r w
  | [], ps, r, w, hx => by simp [frzAll] at hx; obtain ⟨_, _, rfl⟩ := hx; exact FW.nil
  | x :: l, ps, r, w, hx => by
    simp only [frzAll] at hx
    split at hx
    · rename_i p r1 w1 ps2 r2 w2 h1 h2
      simp at hx
      obtain ⟨_, rfl, rfl⟩ := hx
      intro q hq
      rcases List.mem_append.1 hq with hq | hq
      · obtain ⟨h3, h4⟩ := frz_fw h1 q hq
        exact ⟨List.mem_append.2 (.inl h3), h4⟩
      · obtain ⟨h3, h4⟩ := frzAll_fw h2 q hq
        exact ⟨List.mem_append.2 (.inr h3), h4⟩
    · cases hx

theorem OwnV.sl {E : Env} {id : Nat} {nl : Bool} {k : CK} {e n m : Nat} {f : Nat → Nat → PV} {x : Value} (hro : RO E id (.parr true nl k e n f)) (h : OwnV E id nl e n m x) : RP E.S E.w (.sl nl k e m f) x := by
  have hm := h.1
  refine ⟨fun j hj c => hro.1 j (by omega) c, ?_⟩
  rcases h.2 with ⟨hnl, h0, rfl⟩ | ⟨hnl, cap, cs, rfl, hc, _⟩
  · exact ⟨none, 0, by rw [show m = 0 by omega], by omega, hnl, fun _ => ⟨by omega, rfl⟩, fun h => by omega⟩
  · obtain ⟨cs, hb, h1, h2, h3, h4⟩ := hro.same hnl
    refine ⟨_, cap, rfl, by omega, hnl, fun h => (by cases h), fun h0 => ⟨_, 0, rfl, h4 rfl, fun j hj c hcc => ?_⟩⟩
    obtain ⟨z, hz, hr⟩ := h3 j (by omega) c hcc
    exact ⟨z, by rw [cells_block hb]; simpa using hz, hr⟩
theorem sub_sl {E : Env} {id lo m : Nat} {nl : Bool} {k : CK} {e n : Nat} {f : Nat → Nat → PV} {x : Value} (hro : RO E id (.parr true nl k e n f)) (hH : E.H id = some (.parr true nl k e n f)) (h : RC E (.sub id lo m) x) : RP E.S E.w (.sl nl k e m fun j c => f (lo + j) c) x := by
  simp only [RC, hH] at h
  have hm := h.1
  refine ⟨fun j hj c => hro.1 _ (by omega) c, ?_⟩
  rcases h.2 with ⟨hnl, h0, rfl⟩ | ⟨hnl, ad, cap, rfl, hc, ha⟩
  · exact ⟨none, 0, by rw [show m = 0 by omega], by omega, hnl, fun _ => ⟨by omega, rfl⟩, fun h => by omega⟩
  · obtain ⟨cs, hb, h1, h2, h3, h4⟩ := hro.same hnl
    refine ⟨some ad, cap, rfl, hc, hnl, fun h => (by cases h), fun h0 => ⟨_, _, by rw [ha h0], h4 rfl, fun j hj c hcc => ?_⟩⟩
    obtain ⟨z, hz, hr⟩ := h3 (lo + j) (by omega) c hcc
    exact ⟨z, by rw [cells_block hb]; rw [Nat.add_mul] at hz; exact hz, hr⟩
/-- behind the giving up, what was given up reads as what never changes -/
theorem frz_rel {E E' : Env} (hev : Ev E E') {x : CV} {p : PV} {r : List Nat} {w : List (Nat × AObj)} (hob : ∀ id o', E.H id ≠ none → id ∈ r → E'.H id = some o' → RO E' id o') (hx : frz h x = some (p, r, w)) (hrd : ∀ id, id ∈ r → E.H id = aget h id) (hH : ∀ id o, id ∈ r → aget h id = some o → E'.H id = some (frzObj o)) {y : Value} (hy : RC E x y) :
    RP E'.S E'.w p y := by
  have hy' := RC.mono hev hy
  unfold frz at hx
  split at hx
  · simp at hx; obtain ⟨rfl, _, _⟩ := hx; exact hy'
  · split at hx
    · rename_i ro nl k e n f heq
      simp at hx
      obtain ⟨rfl, rfl, rfl⟩ := hx
      have hid := hH _ _ (by simp) heq
      simp only [frzObj] at hid
      simp only [RC, hid] at hy'
      exact OwnV.sl (hob _ _ (by rw [hrd _ (by simp), heq]; simp) (by simp) hid) hy'
    all_goals cases hx
  · split at hx
    · rename_i m0 _ ro nl k e n f heq
      simp at hx
      obtain ⟨rfl, rfl, rfl⟩ := hx
      have hid := hH _ _ (by simp) heq
      simp only [frzObj] at hid
      simp only [RC, hid] at hy'
      exact OwnV.sl (hob _ _ (by rw [hrd _ (by simp), heq]; simp) (by simp) hid) hy'
    · cases hx
  · split at hx
    · rename_i id lo n _ ro nl k e m f heq
      simp at hx
      obtain ⟨rfl, rfl, rfl⟩ := hx
      have hid := hH _ _ (by simp) heq
      simp only [frzObj] at hid
      exact sub_sl (hob _ _ (by rw [hrd _ (by simp), heq]; simp) (by simp) hid) hid hy'
    · cases hx
  · split at hx
    · rename_i id base n esz _ ro l heq
      obtain ⟨hall, hx⟩ := cond_some hx
      simp at hx
      obtain ⟨rfl, rfl, rfl, rfl⟩ := hx
      have hid := hH _ _ (by simp) heq
      simp only [frzObj] at hid
      simp only [RC, hid] at hy'
      obtain ⟨hln, ad, cap, rfl, hc, ha⟩ := hy'
      obtain ⟨cs, hb, hl, h4⟩ := hob _ _ (by rw [hrd _ (by simp), heq]; simp) (by simp) hid
      have hin : ∀ j, j < n → ∀ c, c < esz → base + j * esz + c < l.length := by
        intro j hj c hcc
        have : (j + 1) * esz ≤ n * esz := Nat.mul_le_mul_right _ hj
        rw [Nat.add_mul] at this
        omega
      refine ⟨fun j hj c => ?_, some ad, cap, rfl, hc, rfl, fun h => (by cases h), fun h0 => ⟨_, _, by rw [ha h0], h4 rfl, fun j hj c hcc => ?_⟩⟩
      · by_cases hcc : c < esz
        · have hlt := hin j hj c hcc
          have hlt2 : j * esz + c < n * esz := by
            have : (j + 1) * esz ≤ n * esz := Nat.mul_le_mul_right _ hj
            rw [Nat.add_mul] at this
            omega
          show ckOk _ (pvAt l (base + j * esz + c))
          refine kindsOf_ok (i := j * esz + c) ?_ fun _ => ?_
          · rw [List.getElem?_take, if_pos hlt2, List.getElem?_drop, pvAt_map, ← Nat.add_assoc]
            rw [List.getElem?_eq_getElem (by simpa using hlt)]
            rfl
          · rw [Nat.mul_comm, Nat.mul_add_mod, Nat.mod_eq_of_lt hcc]
        · exact kindsOf_out (by omega) _
      · have hlt := hin j hj c hcc
        obtain ⟨z, hz, hr⟩ := pvAt_rel hl (i := base + j * esz + c) (x := l[base + j * esz + c]) (by simp [hlt]) (List.all_eq_true.1 hall _ (List.getElem_mem _))
        exact ⟨z, by rw [cells_block hb]; simpa using hz, hr⟩
    · cases hx
  all_goals (cases hx)
theorem frzAll_rel {E E' : Env} (hev : Ev E E') : ∀ {l : List CV} {ps : List PV} {r : List Nat} {w : List (Nat × AObj)} {ys : List Value}, (∀ id o', E.H id ≠ none → id ∈ r → E'.H id = some o' → RO E' id o') → frzAll h l = some (ps, r, w) → (∀ id, id ∈ r → E.H id = aget h id) → (∀ id o, id ∈ r → aget h id = some o → E'.H id = some (frzObj o)) →
    RL (RC E) l ys → RL (RP E'.S E'.w) ps ys
  | [], ps, r, w, ys, _, hx, _, _, hl => by simp [frzAll] at hx; obtain ⟨rfl, _, _⟩ := hx; cases hl; exact .nil
  | x :: l, ps, r, w, ys, hob, hx, hrd, hH, hl => by
    simp only [frzAll] at hx
    split at hx
    · rename_i p r1 w1 ps2 r2 w2 h1 h2
      simp at hx
      obtain ⟨rfl, rfl, rfl, rfl⟩ := hx
      cases hl with
      | cons ha hb =>
        exact .cons (frz_rel hev (fun id o' h1 h2 => hob id o' h1 (by simp [h2])) h1 (fun id hid => hrd id (by simp [hid])) (fun id o hid => hH id o (by simp [hid])) ha)
          (frzAll_rel hev (fun id o' h1 h2 => hob id o' h1 (by simp [h2])) h2 (fun id hid => hrd id (by simp [hid])) (fun id o hid => hH id o (by simp [hid])) hb)
    · cases hx

/-- the heap behind it holds what was given up -/
theorem FW.wk {E : Env} {r : List Nat} {w : List (Nat × AObj)} (hf : FW h r w) (hrd : ∀ id, id ∈ r → E.H id = aget h id) : ∀ p, p ∈ w → ∃ q, E.H p.1 = some q ∧ Wk q p.2 := by
  intro p hp
  obtain ⟨hr, o, ho, e, hw⟩ := hf p hp
  exact ⟨o, (hrd _ hr).trans ho, by rw [e]; exact hw⟩
theorem frz_all_in {x : CV} {p : PV} {r : List Nat} {w : List (Nat × AObj)} (hx : frz h x = some (p, r, w)) : ∀ id, id ∈ r → ∃ o, aget h id = some o ∧ (id, frzObj o) ∈ w := by
  unfold frz at hx
  split at hx
  · simp at hx; obtain ⟨_, rfl, rfl⟩ := hx; intro id hid; simp at hid
  · split at hx
    · rename_i heq
      simp at hx
      obtain ⟨_, rfl, rfl⟩ := hx
      intro id hid
      simp at hid
      subst hid
      exact ⟨_, heq, by simp [frzObj]⟩
    all_goals cases hx
  · split at hx
    · rename_i heq
      simp at hx
      obtain ⟨_, rfl, rfl⟩ := hx
      intro id hid
      simp at hid
      subst hid
      exact ⟨_, heq, by simp [frzObj]⟩
    · cases hx
  · split at hx
    · rename_i heq
      simp at hx
      obtain ⟨_, rfl, rfl⟩ := hx
      intro id hid
      simp at hid
      subst hid
      exact ⟨_, heq, by simp [frzObj]⟩
    · cases hx
  · split at hx
    · rename_i heq
      obtain ⟨hall, hx⟩ := cond_some hx
      simp at hx
      obtain ⟨_, rfl, rfl⟩ := hx
      intro id hid
      simp at hid
      subst hid
      exact ⟨_, heq, by simp [frzObj]⟩
    · cases hx
  all_goals (cases hx)
theorem frzAll_all_in : ∀ {l : List CV} {ps : List PV} {r : List Nat} {w : List (Nat × AObj)}, frzAll h l = some (ps, r, w) → ∀ id, id ∈ r → ∃ o, aget h id = some o ∧ (id, frzObj o) ∈ w
  | [], ps, r, w, hx => by simp [frzAll] at hx; obtain ⟨_, rfl, rfl⟩ := hx; intro id hid; simp at hid
  | x :: l, ps, r, w, hx => by
    simp only [frzAll] at hx
    split at hx
    · rename_i p r1 w1 ps2 r2 w2 h1 h2
      simp at hx
      obtain ⟨rfl, rfl, rfl, rfl⟩ := hx
      intro id hid
      rcases List.mem_append.1 hid with hid | hid
      · obtain ⟨o, h3, h4⟩ := frz_all_in h1 id hid
        exact ⟨o, h3, List.mem_append.2 (.inl h4)⟩
      · obtain ⟨o, h3, h4⟩ := frzAll_all_in h2 id hid
        exact ⟨o, h3, List.mem_append.2 (.inr h4)⟩
    · cases hx
/-- a heap's entries behind writes that give up alone -/
theorem FW.fold {E : Env} {r : List Nat} {w : List (Nat × AObj)} (hf : FW h r w) (hin : ∀ id, id ∈ r → ∃ o, aget h id = some o ∧ (id, frzObj o) ∈ w) : ∀ id o, id ∈ r → aget h id = some o → foldH E.H w id = some (frzObj o) := by
  intro id o hid ho
  rcases foldH_spec w E.H id with ⟨p, hp, he, h1⟩ | ⟨hne, h1⟩
  · obtain ⟨_, o', ho', e', _⟩ := hf p hp
    rw [he, ho] at ho'
    injection ho' with ho'
    subst ho'
    rw [h1, e']
  · obtain ⟨o', h2, h3⟩ := hin id hid
    exact absurd rfl (hne _ h3)

/-! ### the operations -/
theorem run_new {E : Env} (cs : Array Value) (T : TypeId) : (newRow T cs).run P E.w = .ok ⟨E.w.heap.size, 0, none⟩ (E.w.alloc (.cells cs T)) := by simp [newRow]
/-- a new row of cells, nothing else -/
theorem opOk_new {op : Op} {av : AV} {ob : AObj} {r : List Nat} {w : List (Nat × AObj)}
    (hw : FW h r w)
    (hrun : ∀ (o : Oper), o.op = op → ∀ (E : Env) (a : Act), Ahead E a t h nx op { v := some av, rd := r, wr := w, al := [ob] } → ∃ v cs T w', (execOp a.eval o).run P E.w = .ok (.value v) w' ∧
      (w'.os = E.w.os ∧ w'.tape = E.w.tape ∧ w'.output = E.w.output ∧ w'.heap = E.w.heap.push (.cells cs T)) ∧
      ∀ E' : Env, Ev E E' → E'.H = updH E.H { v := some av, rd := r, wr := w, al := [ob] } nx → (∀ id o', E.H id ≠ none → E'.H id = some o' → RO E' id o') → E'.H nx = some ob → E'.blk nx cs →
        RO E' nx ob ∧ (E'.ok → E'.ι nx = E.w.heap.size → RA E' av v)) :
    OpOk P op t h nx { v := some av, rd := r, wr := w, al := [ob] } := by
  intro o ho E a hA K Q hK
  obtain ⟨v, cs, T, w', hr, ⟨h1, h2, h3, h4⟩, hn⟩ := hrun o ho E a hA
  obtain ⟨E', rfl, hE'⟩ := After.make (u := { v := some av, rd := r, wr := w, al := [ob] }) (v := v) (o := ob) (cs := cs) (T := T) (fr := (0, 0)) (w' := w') hA.ok (by simpa using hA.al 0 (by simp)) rfl (hw.wk hA.rd) h1 h2 h3 (by rw [h4]; simp)
    (fun b hb => by rw [h4, Array.getElem?_push, if_neg (by omega)]) (by rw [h4, Array.getElem?_push, if_pos rfl]) ⟨by simp, fun j _ => by simp⟩
    (fun E' hev hH hob hnx hb => (hn E' hev hH hob hnx hb).1)
    (fun E' hev hH hok hnx hι hb av' hav => by injection hav with hav; subst hav; exact (hn E' hev hH (fun id o' _ h => hok.obj id o' h) hnx hb).2 hok hι)
  exact wp_of_run hr (hK v E' hE')

theorem ok_alloc {tt : Nat → Option TD} (hT : TT P tt) {T : Nat} {td : TD} (htd : tt T = some td) : OpOk P (.alloc T) t h nx { v := some (.c (.ptr nx 0)), al := [.cells false (zeros td.zero)] } := by
  have ht := hT T td htd
  refine opOk_new FW.nil fun o ho E a hA => ?_
  obtain ⟨z, hz, hzl⟩ := ht.run_zero E.w
  refine ⟨.pointer (some ⟨E.w.heap.size, 0, none⟩), z.cells, T, E.w.alloc (.cells z.cells T), ?_, ⟨rfl, rfl, rfl, rfl⟩, fun E' hev hH hob hnx hb => ⟨?_, fun hok hι => ?_⟩⟩
  · simp [execOp, ho, Instr.alloc, hz, newVar, run_new]
  · refine ⟨z.cells, hb, ?_, fun e => by cases e⟩
    rw [hzl]
    exact zeros_rel ht.one
  · simp only [RA, RV, RC, hnx, hι]
theorem ok_box {T : Nat} {x : Operand} {v : VV} (hx : opv t x = some v) : OpOk P (.box T x) t h nx { v := some (.c (.ptr nx 0)), al := [.cells false v.cells] } := by
  refine opOk_new FW.nil fun o ho E a hA => ?_
  have hv := opv_in hA (by simp [Op.operands]) hx
  refine ⟨.pointer (some ⟨E.w.heap.size, 0, none⟩), (a.eval x).cells, T, E.w.alloc (.cells (a.eval x).cells T), ?_, ⟨rfl, rfl, rfl, rfl⟩, fun E' hev hH hob hnx hb => ⟨?_, fun hok hι => ?_⟩⟩
  · simp [execOp, ho, Instr.box, newVar, run_new]
  · exact ⟨_, hb, hv.cells.mono fun _ _ => RC.mono hev, fun e => by cases e⟩
  · simp only [RA, RV, RC, hnx, hι]

/-! ### nil slices as slices of one's own -/
abbrev phO (k : CK) (e : Nat) : AObj := .parr false true k e 0 fun _ _ => .val undef
theorem RL.set {α β : Type} {R : α → β → Prop} {l : List α} {r : List β} (h : RL R l r) {i : Nat} {a : α} (ha : ∀ b, r[i]? = some b → R a b) : RL R (l.set i a) r := by
  induction h generalizing i with
  | nil => exact .nil
  | cons h1 h2 ih => cases i with
    | zero => exact .cons (ha _ rfl) h2
    | succ i => exact .cons h1 (ih fun b hb => ha b (by simpa using hb))
/-- one new object without a block -/
theorem new_phO {E : Env} (hE : E.ok) {j : Nat} {k : CK} {e : Nat} {f : Nat → Nat → PV} (hj : E.H j = none) : let E1 : Env := ⟨E.ι, fun x => if x = j then some (.parr false true k e 0 f) else E.H x, E.D, E.w⟩
    E1.ok ∧ Ev E E1 := by
  intro E1
  have hne : ∀ id o, E.H id = some o → id ≠ j := fun id o h e => by rw [e, hj] at h; cases h
  have hH : ∀ id o, E.H id = some o → E1.H id = some o := fun id o h => by show (if id = j then _ else _) = _; rw [if_neg (hne id o h), h]
  have hback : ∀ id o, E1.H id = some o → Ve.rw o = true ∨ blkd o = true → E.H id = some o := fun id o h hr => by
    have h : (if id = j then some (.parr false true k e 0 f) else E.H id) = some o := h
    by_cases hid : id = j
    · rw [if_pos hid] at h
      injection h with h
      subst h
      simp [Ve.rw, blkd] at hr
    · rwa [if_neg hid] at h
  have hev : Ev E E1 := {
    s := fun b ⟨h1, h2, h3⟩ => ⟨h1, h2, fun id o h hr => h3 id o (hback id o h (.inl hr)) hr⟩
    c := fun _ _ => rfl
    i := fun _ _ _ => rfl
    h := fun id o h => ⟨o, hH id o h, by cases o <;> simp [shape], fun ⟨_, _, e⟩ => by subst e; rfl⟩
    z := fun id o o' cs _ _ _ hb => ⟨cs, hb, rfl⟩ }
  refine ⟨{ obj := fun id o h => ?_, inj := fun i i' oi oj h1 h2 hr hb hne => hE.inj i i' oi oj (hback i oi h1 (.inl hr)) (hback i' oj h2 (.inr hb)) hr hb hne, out := fun i o h hr => hE.out i o (hback i o h (.inl hr)) hr, dom := hE.dom, gl := hE.gl.mono hev.s hev.c }, hev⟩
  have h : (if id = j then some (.parr false true k e 0 f) else E.H id) = some o := h
  by_cases hid : id = j
  · rw [if_pos hid] at h
    injection h with h
    subst h
    exact ⟨fun j hj => absurd hj (by omega), .inl ⟨rfl, rfl⟩⟩
  · rw [if_neg hid] at h
    exact RO.mono hev (hE.obj id o h) h fun _ => rfl
theorem new_ph {E : Env} (hE : E.ok) {j : Nat} {k : CK} {e : Nat} (hj : E.H j = none) : let E1 : Env := ⟨E.ι, fun x => if x = j then some (phO k e) else E.H x, E.D, E.w⟩
    E1.ok ∧ Ev E E1 := new_phO hE hj
/-- an object that is gone, or has no block still -/
theorem swap_env {E : Env} {id : Nat} {o o' : AObj} (hE : E.ok) (hid : E.H id = some o) (hb : blkd o' = false) (hs : shape o o' = true) (hl : (∃ ro l, o = .cells ro l) → live o' = true) (hro : ∀ E' : Env, RO E' id o') :
    let E1 : Env := ⟨E.ι, fun x => if x = id then some o' else E.H x, E.D, E.w⟩
    E1.ok ∧ Ev E E1 := by
  intro E1
  have hback : ∀ i q, E1.H i = some q → Ve.rw q = true ∨ blkd q = true → E.H i = some q := fun i q h hr => by
    have h : (if i = id then some o' else E.H i) = some q := h
    by_cases hi : i = id
    · rw [if_pos hi] at h
      injection h with h
      subst h
      rcases hr with hr | hr
      · rw [rw_blkd hr] at hb; cases hb
      · rw [hr] at hb; cases hb
    · rwa [if_neg hi] at h
  have hev : Ev E E1 := {
    s := fun b ⟨h1, h2, h3⟩ => ⟨h1, h2, fun i q h hr => h3 i q (hback i q h (.inl hr)) hr⟩
    c := fun _ _ => rfl
    i := fun _ _ _ => rfl
    h := fun i q h => by
      by_cases hi : i = id
      · subst hi
        rw [hid] at h
        injection h with h
        subst h
        exact ⟨o', if_pos rfl, hs, hl⟩
      · exact ⟨q, (if_neg hi).trans h, by cases q <;> simp [shape], fun ⟨_, _, e⟩ => by subst e; rfl⟩
    z := fun i q q' cs _ _ _ hb => ⟨cs, hb, rfl⟩ }
  refine ⟨{ obj := fun i q h => ?_, inj := fun i i' oi oj h1 h2 hr hb hne => hE.inj i i' oi oj (hback i oi h1 (.inl hr)) (hback i' oj h2 (.inr hb)) hr hb hne, out := fun i q h hr => hE.out i q (hback i q h (.inl hr)) hr, dom := hE.dom, gl := hE.gl.mono hev.s hev.c }, hev⟩
  have h : (if i = id then some o' else E.H i) = some q := h
  by_cases hi : i = id
  · rw [if_pos hi] at h
    injection h with h
    subst h hi
    exact hro E1
  · rw [if_neg hi] at h
    exact RO.mono hev (hE.obj i q h) h fun _ => rfl
theorem new_ex {E : Env} (hE : E.ok) {j : Nat} (k : CK) (e : Nat) (f : Nat → Nat → PV) (hj : E.H j = none) : ∃ E1 : Env, E1.ok ∧ Ev E E1 ∧ E1.w = E.w ∧ E1.D = E.D ∧ ∀ x, E1.H x = if x = j then some (.parr false true k e 0 f) else E.H x :=
  ⟨_, (new_phO hE hj).1, (new_phO hE hj).2, rfl, rfl, fun _ => rfl⟩
theorem swap_ex {E : Env} {id : Nat} {o o' : AObj} (hE : E.ok) (hid : E.H id = some o) (hb : blkd o' = false) (hs : shape o o' = true) (hl : (∃ ro l, o = .cells ro l) → live o' = true) (hro : ∀ E' : Env, RO E' id o') :
    ∃ E1 : Env, E1.ok ∧ Ev E E1 ∧ E1.w = E.w ∧ E1.D = E.D ∧ ∀ x, E1.H x = if x = id then some o' else E.H x :=
  ⟨_, (swap_env hE hid hb hs hl hro).1, (swap_env hE hid hb hs hl hro).2, rfl, rfl, fun _ => rfl⟩
/-- behind what turns the abstract heap alone -/
theorem After.quiet {E E2 : Env} {nx : Nat} {u : Upd} {v : Value} (ok : E2.ok) (ev : Ev E E2) (hw : E2.w = E.w) (hD : E2.D = E.D) (hH : ∀ x, E2.H x = updH E.H u nx x) (hv : ∀ av, u.v = some av → RA E2 av v) : After E nx u v E2 where
  H := funext hH
  ok := ok
  ev := ev
  fr := by rw [hw]; exact ⟨rfl, rfl, rfl, Nat.le_refl _⟩
  val := hv
  D := hD
  dom := fun _ _ => by rw [hw]
/-- a cell that reads as another one, too -/
theorem set_cell {E : Env} (hE : E.ok) {d : Nat} {l : List CV} (hd : E.H d = some (.cells false l)) {i : Nat} {x : CV} (hx : ∀ y a, l[i]? = some a → RC E a y → RC E x y) :
    let E1 : Env := ⟨E.ι, fun z => if z = d then some (.cells false (l.set i x)) else E.H z, E.D, E.w⟩
    E1.ok ∧ Ev E E1 := by
  intro E1
  have hto : ∀ id o, E1.H id = some o → ∃ o', E.H id = some o' ∧ Ve.rw o = Ve.rw o' ∧ blkd o = blkd o' := fun id o h => by
    have h : (if id = d then some (.cells false (l.set i x)) else E.H id) = some o := h
    by_cases hid : id = d
    · rw [if_pos hid] at h
      injection h with h
      subst h hid
      exact ⟨_, hd, rfl, rfl⟩
    · rw [if_neg hid] at h
      exact ⟨_, h, rfl, rfl⟩
  have hev : Ev E E1 := {
    s := fun b ⟨h1, h2, h3⟩ => ⟨h1, h2, fun id o h hr => by
      obtain ⟨o', h', e1, _⟩ := hto id o h
      exact h3 id o' h' (e1 ▸ hr)⟩
    c := fun _ _ => rfl
    i := fun _ _ _ => rfl
    h := fun id o h => by
      by_cases hid : id = d
      · subst hid
        rw [hd] at h
        injection h with h
        subst h
        exact ⟨_, if_pos rfl, by simp [shape], fun _ => rfl⟩
      · exact ⟨o, (if_neg hid).trans h, by cases o <;> simp [shape], fun ⟨_, _, e⟩ => by subst e; rfl⟩
    z := fun id o o' cs _ _ _ hb => ⟨cs, hb, rfl⟩ }
  refine ⟨{ obj := fun id o h => ?_, inj := fun i i' oi oj h1 h2 hr hb hne => ?_, out := fun i o h hr => ?_, dom := hE.dom, gl := hE.gl.mono hev.s hev.c }, hev⟩
  · have h : (if id = d then some (.cells false (l.set i x)) else E.H id) = some o := h
    by_cases hid : id = d
    · rw [if_pos hid] at h
      injection h with h
      subst h hid
      obtain ⟨cs, hb, hl, _⟩ := hE.obj _ _ hd
      refine ⟨cs, hb, ?_, fun e => by cases e⟩
      have hl1 := hl.mono fun _ _ => RC.mono hev
      refine hl1.set fun y hy => ?_
      obtain ⟨a, ha, hr⟩ := hl.get' hy
      exact RC.mono hev (hx y a ha hr)
    · rw [if_neg hid] at h
      exact RO.mono hev (hE.obj id o h) h fun _ => rfl
  · obtain ⟨o1, g1, e1, _⟩ := hto _ _ h1
    obtain ⟨o2, g2, _, e2⟩ := hto _ _ h2
    exact hE.inj i i' o1 o2 g1 g2 (e1 ▸ hr) (e2 ▸ hb) hne
  · obtain ⟨o1, g1, e1, _⟩ := hto _ _ h
    exact hE.out i o1 g1 (e1 ▸ hr)
theorem phs_pre (b : Nat) : ∀ (ps : List (Nat × CK × Nat)) (l : List CV) (os : List AObj), ∃ r, (phs b ps l os).2 = os ++ r
  | [], l, os => ⟨[], by simp [phs]⟩
  | (i, k, e) :: ps, l, os => by
    simp only [phs]
    split
    · obtain ⟨r, hr⟩ := phs_pre b ps (l.set i (.own (b + os.length))) (os ++ [phO k e])
      exact ⟨[phO k e] ++ r, by rw [hr]; simp⟩
    · exact phs_pre b ps l os
theorem phs_env {b d : Nat} : ∀ (ps : List (Nat × CK × Nat)) {l l' : List CV} {os os' : List AObj} {E : Env}, phs b ps l os = (l', os') → E.ok → E.H d = some (.cells false l) → (∀ x, b + os.length ≤ x → x < b + os'.length → E.H x = none) →
    ∃ E1 : Env, E1.ok ∧ Ev E E1 ∧ E1.w = E.w ∧ E1.D = E.D ∧ E1.ι = E.ι ∧ ∀ x, E1.H x = if x = d then some (.cells false l') else if b + os.length ≤ x ∧ x < b + os'.length then os'[x - b]? else E.H x
  | [], l, l', os, os', E, he, hE, hd, hn => by
      simp only [phs, Prod.mk.injEq] at he
      obtain ⟨rfl, rfl⟩ := he
      refine ⟨E, hE, Ev.refl E, rfl, rfl, rfl, fun x => ?_⟩
      rw [if_neg (show ¬ (b + os.length ≤ x ∧ x < b + os.length) by omega)]
      by_cases hx : x = d
      · rw [if_pos hx, hx, hd]
      · rw [if_neg hx]
  | (i, k, e) :: ps, l, l', os, os', E, he, hE, hd, hn => by
    by_cases hl : l[i]? = some (.pv (.val (.slice none 0 0)))
    · simp only [phs, hl] at he
      have hr : ∃ r, os' = os ++ [phO k e] ++ r := by
        obtain ⟨r, hr⟩ := phs_pre b ps (l.set i (.own (b + os.length))) (os ++ [phO k e])
        rw [he] at hr
        exact ⟨r, hr⟩
      obtain ⟨r, hr⟩ := hr
      have hlen : os'.length = os.length + 1 + r.length := by rw [hr]; simp; omega
      have hj : E.H (b + os.length) = none := hn _ (Nat.le_refl _) (by rw [hlen]; omega)
      have hdj : d ≠ b + os.length := fun e => by rw [e, hj] at hd; cases hd
      obtain ⟨ok1, ev1⟩ := new_ph (k := k) (e := e) hE hj
      obtain ⟨ok2, ev2⟩ := set_cell (d := d) (l := l) (i := i) (x := .own (b + os.length)) ok1 (by show (if d = _ then _ else _) = _; rw [if_neg hdj, hd]) (fun y a ha hr => by
        rw [hl] at ha
        injection ha with ha
        subst ha
        obtain ⟨rfl, _⟩ := hr
        simp only [RC, if_pos]
        exact ⟨Nat.le_refl _, .inl ⟨rfl, rfl, rfl⟩⟩)
      obtain ⟨E1, k1, k2, k3, k4, k5, k6⟩ := phs_env (b := b) (d := d) ps he ok2 (if_pos rfl) (fun x h1 h2 => by
        simp only [List.length_append, List.length_cons, List.length_nil] at h1
        have h0 := hn x (by omega) h2
        have hxd : x ≠ d := fun e => by rw [e, hd] at h0; cases h0
        show (if x = d then _ else if x = b + os.length then _ else E.H x) = none
        rw [if_neg hxd, if_neg (by omega), h0])
      refine ⟨E1, k1, (ev1.trans ev2).trans k2, k3, k4, k5, fun x => ?_⟩
      rw [k6]
      by_cases hx : x = d
      · rw [if_pos hx, if_pos hx]
      rw [if_neg hx, if_neg hx]
      by_cases hx2 : x = b + os.length
      · rw [if_neg (by simp; omega), if_pos (by rw [hlen]; omega), hr]
        show (if x = d then _ else if x = b + os.length then _ else E.H x) = _
        rw [if_neg hx, if_pos hx2, hx2]
        simp [Nat.add_sub_cancel_left]
      · by_cases hx3 : b + os.length ≤ x ∧ x < b + os'.length
        · rw [if_pos ⟨by simp; omega, hx3.2⟩, if_pos hx3]
        · rw [if_neg (by simp; omega), if_neg hx3]
          show (if x = d then _ else if x = b + os.length then _ else E.H x) = _
          rw [if_neg hx, if_neg hx2]
    · simp only [phs] at he
      exact phs_env ps he hE hd hn
theorem opOk_ph {op : Op} {l : List CV} (ps : List (Nat × CK × Nat)) (h1 : OpOk P op t h nx { v := some (.c (.ptr nx 0)), al := [.cells false l] }) :
    OpOk P op t h nx { v := some (.c (.ptr nx 0)), al := .cells false (phs (nx + 1) ps l []).1 :: (phs (nx + 1) ps l []).2 } := by
  intro o ho E a hA K Q hK
  refine h1 o ho E a ⟨hA.ok, hA.rd, fun i hi => hA.al i (by simp at hi ⊢; omega), hA.tm⟩ K Q fun v E' hE' => ?_
  have hd : E'.H nx = some (.cells false l) := by rw [hE'.H, updH_eq, if_pos (by simp)]; simp
  obtain ⟨E1, k1, k2, k3, k4, k5, k6⟩ := phs_env (b := nx + 1) (d := nx) ps (os := []) (l' := (phs (nx + 1) ps l []).1) (os' := (phs (nx + 1) ps l []).2) rfl hE'.ok hd (fun x g1 g2 => by
    rw [hE'.H, updH_eq, if_neg (by simp at g1 ⊢; omega)]
    show E.H x = none
    have := hA.al (x - nx) (by simp at g1 g2 ⊢; omega)
    rwa [show nx + (x - nx) = x by simp at g1; omega] at this)
  have := hK v E1 { H := ?_, ok := k1, ev := hE'.ev.trans k2, fr := by rw [k3]; exact hE'.fr, val := fun av hav => RA.mono k2 (hE'.val av hav), D := k4.trans hE'.D, dom := fun b hb => by rw [k3]; exact hE'.dom b hb }
  · rwa [k3] at this
  · funext x
    rw [k6, updH_eq]
    by_cases hx : x = nx
    · rw [if_pos hx, if_pos (by simp; omega), hx]
      simp
    rw [if_neg hx]
    by_cases hx2 : nx + 1 + 0 ≤ x ∧ x < nx + 1 + (phs (nx + 1) ps l []).2.length
    · rw [if_pos (by simpa using hx2), if_pos (by simp; omega)]
      rw [show x - nx = (x - (nx + 1)) + 1 by omega]
      simp
    · rw [if_neg (by simpa using hx2), if_neg (by simp; omega), hE'.H, updH_eq, if_neg (by simp; omega)]
theorem ok_build {tt : Nat → Option TD} (hT : TT P tt) {T : Nat} {td : TD} (htd : tt T = some td) {ps : Array (Nat × Operand)} {vs : List (Nat × VV)} (hp : parts t ps.toList = some vs) {place : Nat → Option (Nat × Nat)}
    (hpl : (∃ fs, td.k = .strct fs ∧ place = fun i => fs[i]?) ∨ ∃ n e ed, td.k = .arr n e ∧ tt e = some ed ∧ place = fun i => some (i * ed.size, ed.size)) {l : List CV} (hl : fillIn place (zeros td.zero) vs = some l) :
    OpOk P (.build T ps) t h nx { v := some (.v (.agg l)) } := by
  have ht := hT T td htd
  refine opOk_val fun o ho E a hA => ?_
  obtain ⟨z, hz, hzl⟩ := ht.run_zero E.w
  have hps := parts_rel hp (fun p hp => by simp [Op.operands]; exact ⟨p.1, by simpa using hp⟩) hA
  obtain ⟨cs, h1, h2⟩ := fill_rel (cs := z.cells) hl hps (by rw [hzl]; exact zeros_rel ht.one)
  refine ⟨.agg cs, ?_, cs, rfl, h2⟩
  have hmap : (ps.map fun (x : Nat × Operand) => (x.1, a.eval x.2)).toList = ps.toList.map fun p => (p.1, a.eval p.2) := by simp
  rcases hpl with ⟨fs, hk, rfl⟩ | ⟨n, e, ed, hk, hed, rfl⟩
  · obtain ⟨d, hd, hkd⟩ := ht.und
    rw [hk] at hkd
    cases d <;> simp only [kindOk] at hkd
    rename_i gs
    obtain ⟨hlen, hg⟩ := hkd
    have hpl2 : ∀ fl : List Field, (∀ f, f ∈ fl → (P.info? f.type).isSome = true) → fl.mapM (fun f => (P.info? f.type).map fun i => (f.offset, i.size)) = some (fl.map fun f => (f.offset, P.cellsOf f.type)) := by
      intro fl
      induction fl with
      | nil => intro _; rfl
      | cons f r ih =>
        intro hf
        obtain ⟨i, hi⟩ := Option.isSome_iff_exists.1 (hf f (by simp))
        simp [List.mapM_cons, hi, ih (fun x hx => hf x (by simp [hx])), Program.cellsOf]
    have hsome : ∀ f, f ∈ gs.toList → (P.info? f.type).isSome = true := by
      intro f hf
      obtain ⟨i, hi, e⟩ := List.getElem_of_mem hf
      have hi' : i < gs.size := by simpa using hi
      have := (hg i gs[i] (by simp [hi'])).2
      rw [← e]
      simpa using this
    have hpm := run_places (P := P) E.w gs.toList _ (hpl2 gs.toList hsome)
    have hfun : (fun (i : Nat) => fs[i]?) = (fun (i : Nat) => (gs.map fun f => (f.offset, P.cellsOf f.type))[i]?) := by
      funext i
      by_cases hi : i < gs.size
      · rw [(hg i gs[i] (by simp [hi])).1]
        simp [hi]
      · rw [List.getElem?_eq_none (by omega)]
        simp [hi]
    rw [hfun] at h1
    have hmap' : ((gs.toList.map fun f => (f.offset, P.cellsOf f.type)).toArray : Array (Nat × Nat)) = gs.map fun f => (f.offset, P.cellsOf f.type) := by
      apply Array.ext'
      simp
    simp only [Array.getElem?_map] at h1
    simp [execOp, ho, Instr.build, hz, Go.run_underlying hd, Array.mapM_eq_mapM_toList, hpm, h1]
  · simp only [execOp, ho, Instr.build, Sem.run_bind, hz, Result.andThen_ok, Go.run_underlying (und_arr ht hk), (hT e ed hed).run_sizeOf, hmap, h1, Sem.run_pure]
end
end Go.Ve

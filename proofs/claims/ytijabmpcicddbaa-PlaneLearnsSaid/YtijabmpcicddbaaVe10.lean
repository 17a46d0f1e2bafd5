/- The evaluator ("VE"): what is written. -/
import Derived.Test.YtijabmpcicddbaaVe9
set_option linter.unusedVariables false
set_option linter.unusedSimpArgs false
namespace Go.Ve

theorem RO.nodom {E : Env} (hE : E.ok) {id : Nat} {q : AObj} (hq : E.H id = some q) (hl : blkd q = true) : ¬ E.D (E.ι id) := by
  have hro := hE.obj id q hq
  cases hrq : rw q with
  | true => exact hE.out id q hq hrq
  | false =>
    cases q with
    | dead => simp [blkd] at hl
    | cells ro l => cases ro with
      | false => simp [rw] at hrq
      | true => obtain ⟨_, _, _, hs⟩ := hro; exact (hs rfl).2.1
    | parr ro nl k e n f =>
      cases nl with
      | true => simp [blkd] at hl
      | false => cases ro with
        | false => simp [rw] at hrq
        | true => obtain ⟨_, _, _, _, _, hs⟩ := hro.same rfl; exact (hs rfl).2.1
    | mapo => simp [rw] at hrq
theorem RO.s {E : Env} {id : Nat} {o : AObj} (hro : RO E id o) (hr : rw o = false) (hl : blkd o = true) : E.S (E.ι id) := by
  cases o with
  | dead => simp [blkd] at hl
  | cells ro l => cases ro with
    | false => simp [rw] at hr
    | true => obtain ⟨_, _, _, hs⟩ := hro; exact hs rfl
  | parr ro nl k e n f =>
    cases nl with
    | true => simp [blkd] at hl
    | false => cases ro with
      | false => simp [rw] at hr
      | true => obtain ⟨_, _, _, _, _, hs⟩ := hro.same rfl; exact hs rfl
  | mapo => simp [rw] at hr
theorem wk_ro {E E' : Env} (hE : E.ok) (hev : Ev E E') (hD : E'.D = E.D) (hsz : E.w.heap.size ≤ E'.w.heap.size) {id : Nat} {q o' : AObj} (hq : E.H id = some q) (hwk : Wk q o')
    (hrw : blkd q = true → ∀ j oj, E'.H j = some oj → rw oj = true → E'.ι j ≠ E.ι id) (hb : blkd q = true → E'.w.heap[E.ι id]? = E.w.heap[E.ι id]?) : RO E' id o' := by
  have hro : RO E' id q := RO.mono hev (hE.obj id q hq) hq hb
  have hS : blkd q = true → E'.S (E'.ι id) := by
    intro hlq
    rw [hev.i id q hq]
    have := RO.lt (hE.obj id q hq) hlq
    refine ⟨by omega, ?_, hrw hlq⟩
    rw [hD]
    exact RO.nodom hE hq hlq
  cases hwk with
  | cells _ => obtain ⟨cs, hb, hl, _⟩ := hro; exact ⟨cs, hb, hl, fun _ => hS rfl⟩
  | parr =>
    refine ⟨hro.1, ?_⟩
    rcases hro.2 with hh | ⟨hnl, cs, hb, h1, h2, _⟩
    · exact .inl hh
    · exact .inr ⟨hnl, cs, hb, h1, h2, fun _ => hS (by subst hnl; rfl)⟩
  | dead => trivial

/-- one block is written: its object stays, or another takes its place; others may be given up -/
theorem After.write0 {E : Env} {nx : Nat} {u : Upd} {v : Value} {d : Nat} {od : AObj} {w' : World} (hE : E.ok) (hd : E.H d = some od) (hrw : rw od = true)
    (hal : ∀ i, i < u.al.length → E.H (nx + i) = none) (hal1 : u.al.length ≤ 1)
    (hw : ∀ p, p ∈ u.wr → (p.1 ≠ d ∧ ∃ q, E.H p.1 = some q ∧ Wk q p.2) ∨ (p.1 = d ∧ shape od p.2 = true ∧ ((∃ ro l, od = .cells ro l) → live p.2 = true) ∧ (p.2 = .dead ∨ u.al = [])))
    (hdd : u.al ≠ [] → foldH E.H u.wr d = some .dead)
    (hos : w'.os = E.w.os) (htape : w'.tape = E.w.tape) (hout : w'.output = E.w.output) (hsize : w'.heap.size = E.w.heap.size) (hold : ∀ b, b ≠ E.ι d → w'.heap[b]? = E.w.heap[b]?)
    (hz : ∀ cs0, E.blk d cs0 → ∃ cs T fr, w'.heap[E.ι d]? = some (.cells cs T fr) ∧ FrOk cs.size fr ∧ cs.size = cs0.size)
    (hin : d ∈ u.wr.map (·.1))
    (hnew : ∀ E' : Env, Ev E E' → E'.H = updH E.H u nx → (∀ id o', E.H id ≠ none → id ≠ d → E'.H id = some o' → RO E' id o') → ∀ id o', (id = d ∨ (E.H id = none ∧ u.al = [o'] ∧ E'.ι id = E.ι d)) → E'.H id = some o' → E'.ι id = E.ι d → E'.w = w' → RO E' id o')
    (hv : ∀ E' : Env, Ev E E' → E'.H = updH E.H u nx → E'.ok → (u.al ≠ [] → E'.ι nx = E.ι d) → E'.w = w' → ∀ av, u.v = some av → RA E' av v) : ∃ E', E'.w = w' ∧ After E nx u v E' := by
  let E' : Env := ⟨fun i => if E.H i = none then E.ι d else E.ι i, updH E.H u nx, E.D, w'⟩
  have hι : ∀ id q, E.H id = some q → E'.ι id = E.ι id := fun id q h => if_neg (by rw [h]; simp)
  have hι0 : ∀ id, E.H id = none → E'.ι id = E.ι d := fun id h => if_pos h
  -- who is new
  have hnewid : ∀ id q, E'.H id = some q → E.H id = none → id = nx ∧ u.al = [q] := by
    intro id q hq h0
    have : updH E.H u nx id = some q := hq
    rw [updH_eq] at this
    split at this
    · rename_i hr
      have hi : id = nx := by omega
      subst hi
      refine ⟨rfl, ?_⟩
      rw [Nat.sub_self] at this
      cases hu : u.al with
      | nil => rw [hu] at this; simp at this
      | cons x r =>
        rw [hu] at this hal1
        simp at this hal1
        subst hal1
        rw [this]
    · rcases foldH_spec u.wr E.H id with ⟨p, hp, he, h⟩ | ⟨_, h⟩
      · rcases hw p hp with ⟨_, q2, hq2, _⟩ | ⟨he2, _⟩
        · rw [he, h0] at hq2; cases hq2
        · rw [he] at he2; subst he2; rw [hd] at h0; cases h0
      · rw [h, h0] at this; cases this
  have hold' : ∀ id, E.H id ≠ none → E'.H id = foldH E.H u.wr id := by
    intro id hid
    show updH E.H u nx id = _
    rw [updH_eq, if_neg]
    rintro ⟨h1, h2⟩
    have := hal (id - nx) (by omega)
    rw [show nx + (id - nx) = id by omega] at this
    exact hid this
  have hcase : ∀ id, E.H id ≠ none → id ≠ d → (∃ p q, p ∈ u.wr ∧ p.1 = id ∧ E.H id = some q ∧ Wk q p.2 ∧ E'.H id = some p.2) ∨ E'.H id = E.H id := by
    intro id hid hne
    rw [hold' id hid]
    rcases foldH_spec u.wr E.H id with ⟨p, hp, he, h⟩ | ⟨_, h⟩
    · rcases hw p hp with ⟨_, q, hq, hwk⟩ | ⟨he2, _⟩
      · exact .inl ⟨p, q, hp, he, he ▸ hq, hwk, h⟩
      · exact absurd (he.symm.trans he2) hne
    · exact .inr h
  have hcd : ∃ o', E'.H d = some o' ∧ shape od o' = true ∧ ((∃ ro l, od = .cells ro l) → live o' = true) ∧ (o' = .dead ∨ u.al = []) := by
    rw [hold' d (by rw [hd]; simp)]
    rcases foldH_spec u.wr E.H d with ⟨p, hp, he, h⟩ | ⟨hne, h⟩
    · rcases hw p hp with ⟨hne, _⟩ | ⟨_, h1, h2, h3⟩
      · exact absurd he hne
      · exact ⟨p.2, h, h1, h2, h3⟩
    · obtain ⟨p, hp, he⟩ := List.mem_map.1 hin
      exact absurd he (hne p hp)
  have hnd : ∀ id q, E.H id = some q → blkd q = true → id ≠ d → E.ι id ≠ E.ι d := fun id q h hl hne e => hE.inj d id od q hd h hrw hl (fun e => hne e.symm) e.symm
  have hsd : ∀ b, E.S b → b ≠ E.ι d := fun b hb e => hb.2.2 d od hd hrw e.symm
  -- whoever is written later on
  have hrwE' : ∀ j oj, E'.H j = some oj → rw oj = true → (E.H j = none ∧ E'.ι j = E.ι d) ∨ j = d ∨ (E.H j = some oj ∧ j ≠ d) := by
    intro j oj hj hr
    cases h0 : E.H j with
    | none => exact .inl ⟨rfl, hι0 j h0⟩
    | some q =>
      by_cases hjd : j = d
      · exact .inr (.inl hjd)
      · rcases hcase j (by rw [h0]; simp) hjd with ⟨p, q2, hp, he, hq2, hwk, h⟩ | h
        · rw [h] at hj
          injection hj with hj
          subst hj
          rw [hwk.rw] at hr
          cases hr
        · rw [h, h0] at hj
          injection hj with hj
          subst hj
          exact .inr (.inr ⟨rfl, hjd⟩)
  have hev : Ev E E' := {
    s := fun b hb => by
      refine ⟨by show b < w'.heap.size; rw [hsize]; exact hb.1, hb.2.1, fun j oj hj hr => ?_⟩
      rcases hrwE' j oj hj hr with ⟨_, h⟩ | rfl | ⟨h, _⟩
      · rw [h]; exact fun e => hsd b hb e.symm
      · rw [hι _ od hd]; exact fun e => hsd b hb e.symm
      · rw [hι j oj h]; exact hb.2.2 j oj h hr
    c := fun b hb => hold b (hsd b hb)
    i := hι
    h := fun id q hq => by
      by_cases hid : id = d
      · subst hid
        rw [hd] at hq
        injection hq with hq
        subst hq
        obtain ⟨o', h1, h2, h3, _⟩ := hcd
        exact ⟨o', h1, h2, h3⟩
      · rcases hcase id (by rw [hq]; simp) hid with ⟨p, q', hp, he, hq', hwk, h⟩ | h
        · rw [hq] at hq'
          injection hq' with hq'
          subst hq'
          refine ⟨p.2, h, hwk.shape, fun ⟨ro, l, e⟩ => ?_⟩
          subst e
          generalize p.2 = z at hwk
          cases hwk
          rfl
        · exact ⟨q, by rw [h, hq], by cases q <;> simp [shape], fun ⟨_, _, e⟩ => by subst e; rfl⟩
    z := fun id q q' cs' hq hq' hl hb => by
      by_cases hid : id = d
      · subst hid
        obtain ⟨cs1, T1, fr1, k1, k2, k3⟩ := hz cs' hb
        exact ⟨cs1, ⟨T1, fr1, by rw [hι _ od hd]; exact k1, k2⟩, k3⟩
      · have hlq : blkd q = true := by
          rcases hcase id (by rw [hq]; simp) hid with ⟨p, q2, hp, he, hq2, hwk, h⟩ | h
          · rw [hq] at hq2
            injection hq2 with hq2
            subst hq2
            rw [h] at hq'
            injection hq' with hq'
            subst hq'
            exact hwk.blkd hl
          · rw [h, hq] at hq'
            injection hq' with hq'
            rw [hq']
            exact hl
        exact ⟨cs', Env.blk_same hb (hι id q hq) (hold _ (hnd id q hq hlq hid)), rfl⟩ }
  have hrest : ∀ id o', E.H id ≠ none → id ≠ d → E'.H id = some o' → RO E' id o' := by
    intro id o' h0 hid ho'
    rcases hcase id h0 hid with ⟨p, q', hp, he, hq', hwk, h⟩ | h
    · rw [h] at ho'
      injection ho' with ho'
      subst ho'
      refine wk_ro hE hev rfl (by show _ ≤ w'.heap.size; omega) hq' hwk (fun hl j oj hj hr => ?_) fun hl => hold _ (hnd id q' hq' hl hid)
      rcases hrwE' j oj hj hr with ⟨_, h1⟩ | rfl | ⟨h1, _⟩
      · rw [h1]; exact fun e => hnd id q' hq' hl hid e.symm
      · rw [hι _ od hd]; exact fun e => hnd id q' hq' hl hid e.symm
      · rw [hι j oj h1]
        refine hE.inj j id oj q' h1 hq' hr hl fun e => ?_
        subst e
        rw [h] at hj
        injection hj with hj
        subst hj
        rw [hwk.rw] at hr
        cases hr
    · rw [h] at ho'
      exact RO.mono hev (hE.obj id o' ho') ho' fun hl => hold _ (hnd id o' ho' hl hid)
  have hok : E'.ok := {
    obj := fun id o' ho' => by
      cases h0 : E.H id with
      | none => exact hnew E' hev rfl hrest id o' (.inr ⟨h0, (hnewid id o' ho' h0).2, hι0 id h0⟩) ho' (hι0 id h0) rfl
      | some q =>
        by_cases hid : id = d
        · exact hnew E' hev rfl hrest id o' (.inl hid) ho' (by subst hid; exact hι _ od hd) rfl
        · exact hrest id o' (by rw [h0]; simp) hid ho'
    inj := fun i j oi oj hi hj hri hlj hij => by
      have hjold : ∀ q, E.H j = some q → j ≠ d → blkd q = true := by
        intro q hq hjd
        rcases hcase j (by rw [hq]; simp) hjd with ⟨p, q2, hp, he, hq2, hwk, h⟩ | h
        · rw [hq] at hq2
          injection hq2 with hq2
          subst hq2
          rw [h] at hj
          injection hj with hj
          subst hj
          exact hwk.blkd hlj
        · rw [h, hq] at hj
          injection hj with hj
          rw [hj]
          exact hlj
      rcases hrwE' i oi hi hri with ⟨hi0, h1⟩ | rfl | ⟨h1, hid⟩
      · rw [h1]
        obtain ⟨rfl, hal2⟩ := hnewid i oi hi hi0
        cases hj0 : E.H j with
        | none => exact absurd (hnewid j oj hj hj0).1.symm hij
        | some q =>
          rw [hι j q hj0]
          by_cases hjd : j = d
          · subst hjd
            obtain ⟨o', h2, _, _, h3⟩ := hcd
            rw [h2] at hj
            injection hj with hj
            subst hj
            rcases h3 with rfl | h3
            · simp [blkd] at hlj
            · rw [h3] at hal2; cases hal2
          · exact fun e => hnd j q hj0 (hjold q hj0 hjd) hjd e.symm
      · rw [hι _ od hd]
        cases hj0 : E.H j with
        | none =>
          obtain ⟨_, hal2⟩ := hnewid j oj hj hj0
          obtain ⟨o', h2, _, _, h3⟩ := hcd
          rw [h2] at hi
          injection hi with hi
          subst hi
          rcases h3 with rfl | h3
          · simp [rw] at hri
          · rw [h3] at hal2; cases hal2
        | some q =>
          rw [hι j q hj0]
          exact fun e => hnd j q hj0 (hjold q hj0 (fun e => hij e.symm)) (fun e => hij e.symm) e.symm
      · rw [hι i oi h1]
        have hli : blkd oi = true := rw_blkd hri
        cases hj0 : E.H j with
        | none => rw [hι0 j hj0]; exact hnd i oi h1 hli hid
        | some q =>
          rw [hι j q hj0]
          by_cases hjd : j = d
          · subst hjd; exact hnd i oi h1 hli hid
          · exact hE.inj i j oi q h1 hj0 hri (hjold q hj0 hjd) hij
    out := fun i o ho hr => by
      show ¬ E.D (E'.ι i)
      rcases hrwE' i o ho hr with ⟨_, h1⟩ | rfl | ⟨h1, _⟩
      · rw [h1]; exact hE.out d od hd hrw
      · rw [hι _ od hd]; exact hE.out _ od hd hrw
      · rw [hι i o h1]; exact hE.out i o h1 hr
    dom := fun b hb => by show b < w'.heap.size; rw [hsize]; exact hE.dom b hb
    gl := hE.gl.mono hev.s hev.c }
  refine ⟨E', rfl, rfl, hok, hev, ⟨hos, htape, hout, by show _ ≤ w'.heap.size; omega⟩, hv E' hev rfl hok (fun hne => ?_) rfl, rfl, fun b hb => hold b fun e => hE.out d od hd hrw (e ▸ hb)⟩
  · have hn : E.H nx = none := by simpa using hal 0 (by cases h : u.al with | nil => exact absurd h hne | cons => simp)
    exact hι0 nx hn
theorem After.write {E : Env} {nx : Nat} {u : Upd} {v : Value} {d : Nat} {od : AObj} {cs : Array Value} {T : TypeId} {fr : Nat × Nat} {w' : World} (hE : E.ok) (hd : E.H d = some od) (hrw : rw od = true)
    (hal : ∀ i, i < u.al.length → E.H (nx + i) = none) (hal1 : u.al.length ≤ 1)
    (hw : ∀ p, p ∈ u.wr → (p.1 ≠ d ∧ ∃ q, E.H p.1 = some q ∧ Wk q p.2) ∨ (p.1 = d ∧ shape od p.2 = true ∧ ((∃ ro l, od = .cells ro l) → live p.2 = true) ∧ (p.2 = .dead ∨ u.al = [])))
    (hdd : u.al ≠ [] → foldH E.H u.wr d = some .dead)
    (hos : w'.os = E.w.os) (htape : w'.tape = E.w.tape) (hout : w'.output = E.w.output) (hsize : w'.heap.size = E.w.heap.size) (hold : ∀ b, b ≠ E.ι d → w'.heap[b]? = E.w.heap[b]?)
    (hblk : w'.heap[E.ι d]? = some (.cells cs T fr)) (hfr : FrOk cs.size fr) (hcs : ∀ cs0, E.blk d cs0 → cs0.size = cs.size)
    (hin : d ∈ u.wr.map (·.1))
    (hnew : ∀ E' : Env, Ev E E' → E'.H = updH E.H u nx → (∀ id o', E.H id ≠ none → id ≠ d → E'.H id = some o' → RO E' id o') → ∀ id o', (id = d ∨ (E.H id = none ∧ u.al = [o'] ∧ E'.ι id = E.ι d)) → E'.H id = some o' → E'.blk id cs → RO E' id o')
    (hv : ∀ E' : Env, Ev E E' → E'.H = updH E.H u nx → E'.ok → (u.al ≠ [] → E'.ι nx = E.ι d ∧ E'.blk nx cs) → ∀ av, u.v = some av → RA E' av v) : ∃ E', E'.w = w' ∧ After E nx u v E' :=
  After.write0 hE hd hrw hal hal1 hw hdd hos htape hout hsize hold (fun cs0 h0 => ⟨cs, T, fr, hblk, hfr, (hcs cs0 h0).symm⟩) hin
    (fun E' h1 h2 h3 id o' h4 h5 h6 h7 => hnew E' h1 h2 h3 id o' h4 h5 ⟨T, fr, by rw [h6, h7]; exact hblk, hfr⟩)
    (fun E' h1 h2 h3 h4 h5 => hv E' h1 h2 h3 fun hne => ⟨h4 hne, T, fr, by rw [h4 hne, h5]; exact hblk, hfr⟩)

section
variable {P : Program} {t : List (Nat × AV)} {h : List (Nat × AObj)} {nx : Nat} {u : Upd}

theorem RV.one {E : Env} {x : VV} {y : Value} (hr : RV E x y) : ∀ v, v ∈ y.cells.toList → v.oneCell' = true := by
  intro v hv
  obtain ⟨i, hi⟩ := List.mem_iff_getElem?.1 hv
  obtain ⟨a, _, hc⟩ := hr.cells.get' hi
  exact RC.one hc
theorem run_store_rel {T : Nat} {td : TD} (ht : TdOk P T td) {w : World} {b o : Nat} {y : Value} (hy : y.cells.size = td.size) (h1 : ∀ v, v ∈ y.cells.toList → v.oneCell' = true) {cs : Array Value} {T' : TypeId} {fr : Nat × Nat}
    (hb : w.heap[b]? = some (.cells cs T' fr)) (hfr : FrOk cs.size fr) (hin : o + td.size ≤ cs.size) : (Instr.storeAt T (.pointer (some ⟨b, o, none⟩)) y).run P w = .ok () (w.setCells b o y.cells.toList) := by
  have hst := run_storeCells_cells (P := P) b o y.cells.toList 0 w
    (fun j hj => by
      have : o + 0 + j < cs.size := by simp at hj; omega
      simp only [Nat.add_zero] at this
      simp [World.cell?, hb, this])
    (fun j hj => by
      have : o + 0 + j < cs.size := by simp at hj; omega
      have := hfr.2 _ (Nat.lt_of_lt_of_le this (Nat.le_add_right _ frx))
      simp only [World.frozen?, hb]
      simp
      omega) h1
  have hsure : (Instr.sureAddr (.pointer (some ⟨b, o, none⟩))).run P w = .ok ⟨b, o, none⟩ w := by simp [Instr.sureAddr]
  simp only [Instr.storeAt, storeVar, Sem.run_bind, hsure, Result.andThen_ok, ht.run_sizeOf, hy, ne_eq, not_true, if_false, Sem.run_pure, hst, Nat.add_zero]

/-- a block behind a write -/
theorem blk_set {E : Env} {id : Nat} {cs : Array Value} (hb : E.blk id cs) {o : Nat} {vs : List Value} (hin : o + vs.length ≤ cs.size) : ∃ (cs' : Array Value) (T : TypeId) (fr : Nat × Nat), (E.w.setCells (E.ι id) o vs).heap[E.ι id]? = some (.cells cs' T fr) ∧ (FrOk cs'.size fr) ∧
    cs'.size = cs.size ∧ cs'.toList = cs.toList.take o ++ vs ++ cs.toList.drop (o + vs.length) := by
  obtain ⟨T, fr, h1, h2⟩ := hb
  obtain ⟨cs', h3, h4⟩ := setCells_spec (E.ι id) vs o E.w cs T fr h1 hin
  have hsz : cs'.size = cs.size := by
    rw [← Array.length_toList, h4]
    simp
    omega
  exact ⟨cs', T, fr, h3, by rw [hsz]; exact h2, hsz, h4⟩
theorem getElem?_set {cs cs' : Array Value} {o : Nat} {vs : List Value} (h4 : cs'.toList = cs.toList.take o ++ vs ++ cs.toList.drop (o + vs.length)) (hin : o + vs.length ≤ cs.size) (j : Nat) : cs'[j]? = if o ≤ j ∧ j < o + vs.length then vs[j - o]? else cs[j]? := by
  have hto : (cs.toList.take o).length = o := by simp; omega
  rw [← Array.getElem?_toList, h4]
  by_cases h1 : j < o
  · rw [if_neg (by omega), List.append_assoc, List.getElem?_append_left (by omega), List.getElem?_take_of_lt h1, Array.getElem?_toList]
  · by_cases h2 : j < o + vs.length
    · rw [if_pos (by omega), List.getElem?_append_left (by simp; omega), List.getElem?_append_right (by omega), hto]
    · rw [if_neg (by omega), List.getElem?_append_right (by simp; omega), List.getElem?_drop]
      rw [← Array.getElem?_toList]
      congr 1
      simp
      omega

theorem ok_store {tt : Nat → Option TD} (hT : TT P tt) {T : Nat} {x y : Operand} {p : CV} {v : VV} (hx : opnd t x = some (.c p)) (hy : opv t y = some v) (hu : (evStore tt h T p v).get = some u) : OpOk P (.store T x y) t h nx u := by
  unfold evStore at hu
  split at hu
  · rename_i td htd
    have ht := hT T td htd
    cases hsz : Nat.beq v.cells.length td.size with
    | false => simp [hsz, Stp.get] at hu
    | true =>
      have hsz' := Nat.eq_of_beq_eq_true hsz
      simp only [hsz, cond_true] at hu
      split at hu
      · rename_i id off
        split at hu
        · rename_i l hid
          obtain ⟨l', hl', hu⟩ := Stp.of_get hu
          simp only [Stp.get, Option.some.injEq] at hu
          subst hu
          obtain ⟨hle, rfl⟩ := splice_eq hl'
          intro o ho E a hA K Q hK
          have hp := opnd_in hA (by simp [Op.operands]) hx
          have hv := opv_in hA (by simp [Op.operands]) hy
          have hE := hA.ok
          have hHid : E.H id = some (.cells false l) := (hA.rd id (by simp)).trans hid
          have e1 : a.eval x = .pointer (some ⟨E.ι id, off, none⟩) := by simpa [RA, RV, RC, hHid] using hp
          obtain ⟨cs, hb, hl, _⟩ := hE.obj id _ hHid
          have hlen := hl.length
          have hvc := hv.cells
          have hvl := hvc.length
          have hys : (a.eval y).cells.size = td.size := by rw [← hsz', hvl]; simp
          have hin : off + (a.eval y).cells.toList.length ≤ cs.size := by simp at hlen; simp; omega
          obtain ⟨cs', T', fr, h1, h2, h3, h4⟩ := blk_set hb hin
          have hbc := hb
          obtain ⟨T0, fr0, hb0, hf0⟩ := hbc
          have hrun := run_store_rel (P := P) (o := off) ht hys hv.one hb0 hf0 (by simp at hin; omega)
          obtain ⟨r1, r2, r3, r4⟩ := setCells_rest (E.ι id) (a.eval y).cells.toList off E.w
          obtain ⟨E', hw', hE'⟩ := After.write (u := { v := none, rd := [id], wr := [(id, .cells false (l.take off ++ v.cells ++ l.drop (off + v.cells.length)))] }) (v := undef) (d := id) (nx := nx) (w' := E.w.setCells (E.ι id) off (a.eval y).cells.toList) hE hHid rfl (by simp) (by simp)
            (fun q hq => by
              simp at hq
              subst hq
              refine .inr ⟨rfl, ?_, fun _ => rfl, .inr rfl⟩
              simp [shape]
              omega)
            (fun hne => absurd rfl hne) r1 r2 r3 r4 (fun b hb => setCells_other _ _ _ _ _ hb) h1 h2 (fun cs0 h0 => by rw [Env.blk_unique h0 hb, h3]) (by simp)
            (fun E' hev hH hr id' o' hc ho' hbl => by
              rcases hc with rfl | ⟨_, hc, _⟩
              · rw [hH, updH_eq, if_neg (by simp)] at ho'
                simp [foldH] at ho'
                subst ho'
                refine ⟨cs', hbl, ?_, fun e => by cases e⟩
                rw [h4, ← hvl, ← List.append_assoc]
                exact ((((hl.take off).append hvc).append (hl.drop _)).mono fun _ _ => RC.mono hev)
              · cases hc)
            (fun E' _ _ _ _ av hav => by cases hav)
          exact wp_of_skip (by simp [execOp, ho, e1, hrun]) (hw' ▸ hK _ E' hE')
        · simp [Stp.get] at hu
      · rename_i id i off
        split at hu
        · rename_i nl k e n f xs r w hid hfz
          cases hc : (Nat.ble (off + td.size) e && !(r.contains id)) with
          | false => simp only [hc, cond_false, Stp.get] at hu; cases hu
          | true =>
            simp only [hc, cond_true, Stp.get, Option.some.injEq] at hu
            subst hu
            simp only [Bool.and_eq_true, Bool.not_eq_true'] at hc
            obtain ⟨hc1, hc2⟩ := hc
            have hle := Nat.le_of_ble_eq_true hc1
            have hnr : id ∉ r := by simpa using hc2
            intro o ho E a hA K Q hK
            have hp := opnd_in hA (by simp [Op.operands]) hx
            have hv := opv_in hA (by simp [Op.operands]) hy
            have hE := hA.ok
            have hHid : E.H id = some (.parr false nl k e n f) := (hA.rd id (by simp)).trans hid
            obtain ⟨e1, hi⟩ : a.eval x = .pointer (some ⟨E.ι id, i * e + off, none⟩) ∧ i < n := by simpa [RA, RV, RC, hHid] using hp
            obtain ⟨rfl, cs, hb, hn, hk, hl, _⟩ := (hE.obj id _ hHid).real (by omega)
            have hvc := hv.cells
            have hvl := hvc.length
            have hys : (a.eval y).cells.size = td.size := by rw [← hsz', hvl]; simp
            have hie : i * e + e ≤ n * e := by
              have : (i + 1) * e ≤ n * e := Nat.mul_le_mul_right _ hi
              rw [Nat.add_mul] at this
              omega
            have hin : i * e + off + (a.eval y).cells.toList.length ≤ cs.size := by simp; omega
            obtain ⟨cs', T', fr, h1, h2, h3, h4⟩ := blk_set hb hin
            have hbc := hb
            obtain ⟨T0, fr0, hb0, hf0⟩ := hbc
            have hrun := run_store_rel (P := P) (o := i * e + off) ht hys hv.one hb0 hf0 (by simp at hin; omega)
            obtain ⟨r1, r2, r3, r4⟩ := setCells_rest (E.ι id) (a.eval y).cells.toList (i * e + off) E.w
            have hfw := frzAll_fw hfz
            have hxl := frzAll_length hfz
            have hrd : ∀ id, id ∈ r → E.H id = aget h id := fun id hid => hA.rd id (by simp [hid])
            obtain ⟨E', hw', hE'⟩ := After.write (u := { v := none, rd := id :: r, wr := w ++ [(id, .parr false false (bif fitsAt (kDrop k off) xs then k else .nil) e n (setf f i off xs))] }) (v := undef) (d := id) (nx := nx) (w' := E.w.setCells (E.ι id) (i * e + off) (a.eval y).cells.toList) hE hHid rfl (by simp) (by simp)
              (fun q hq => by
                rcases List.mem_append.1 hq with hq | hq
                · exact .inl ⟨fun e => hnr (e ▸ (hfw q hq).1), hfw.wk hrd q hq⟩
                · simp at hq
                  subst hq
                  exact .inr ⟨rfl, by simp [shape], (by rintro ⟨_, _, e⟩; cases e), .inr rfl⟩)
              (fun hne => absurd rfl hne) r1 r2 r3 r4 (fun b hb => setCells_other _ _ _ _ _ hb) h1 h2 (fun cs0 h0 => by rw [Env.blk_unique h0 hb, h3]) (by simp)
              (fun E' hev hH hr id' o' hc ho' hbl => by
                rcases hc with rfl | ⟨_, hc, _⟩
                · rw [hH, updH_eq, if_neg (by simp)] at ho'
                  simp [foldH] at ho'
                  subst ho'
                  have hfzd : ∀ id o, id ∈ r → aget h id = some o → E'.H id = some (frzObj o) := by
                    intro i2 o2 hi2 ho2
                    rw [hH, updH_eq, if_neg (by simp)]
                    have hne : i2 ≠ id' := fun e => hnr (e ▸ hi2)
                    have := hfw.fold (frzAll_all_in hfz) (E := E) i2 o2 hi2 ho2
                    unfold foldH at this ⊢
                    rw [List.foldl_append]
                    simp only [List.foldl_cons, List.foldl_nil, if_neg hne]
                    exact this
                  have hxs := frzAll_rel hev (fun j oj hj hjr hoj => hr j oj hj (fun e => hnr (e ▸ hjr)) hoj) hfz hrd hfzd hvc
                  refine ⟨fun j hj c => ?_, .inr ⟨rfl, cs', hbl, by omega, fun j hj c hcc => ?_, fun e => by cases e⟩⟩
                  · cases hke : fitsAt (kDrop k off) xs with
                    | false => rw [cond_false, kDrop_nil]; trivial
                    | true =>
                      rw [cond_true]
                      unfold setf
                      cases hcc : (Nat.beq j i && (Nat.ble off c && Nat.blt c (off + xs.length))) with
                      | false => exact hk j hj c
                      | true =>
                        simp only [Bool.and_eq_true] at hcc
                        have h0 := Nat.le_of_ble_eq_true hcc.2.1
                        have h5 : c < off + xs.length := Nat.le_of_ble_eq_true hcc.2.2
                        have hlt : c - off < xs.length := by omega
                        have := fitsAt_ok hke (i := c - off) (p := xs[c - off]) (by simp [hlt])
                        rw [kDrop_add, show off + (c - off) = c by omega] at this
                        simpa only [cond_true, List.getD, List.getElem?_eq_getElem hlt, Option.getD_some] using this
                  · have hxr := hxs.length
                    rw [getElem?_set h4 hin]
                    unfold setf
                    cases hcond : (Nat.beq j i && (Nat.ble off c && Nat.blt c (off + xs.length))) with
                    | true =>
                      simp only [Bool.and_eq_true] at hcond
                      obtain ⟨hj2, hc2, hc3⟩ := hcond
                      obtain rfl := Nat.eq_of_beq_eq_true hj2
                      have h6 := Nat.le_of_ble_eq_true hc2
                      have h7 : c < off + xs.length := Nat.le_of_ble_eq_true hc3
                      have hlt : c - off < xs.length := by omega
                      rw [if_pos (by omega), show j * e + c - (j * e + off) = c - off by omega]
                      simp only [cond_true, List.getD, List.getElem?_eq_getElem hlt, Option.getD_some]
                      exact hxs.get (List.getElem?_eq_getElem hlt)
                    | false =>
                      simp only [cond_false]
                      have hjj : j * e + e ≤ n * e := by
                        have : (j + 1) * e ≤ n * e := Nat.mul_le_mul_right _ hj
                        rw [Nat.add_mul] at this
                        omega
                      rw [if_neg]
                      · obtain ⟨y, hy, hr⟩ := hl j hj c hcc
                        exact ⟨y, hy, RP.mono hev.s hev.c hr⟩
                      · rintro ⟨h6, h7⟩
                        have hcs2 : xs.length ≤ td.size := by omega
                        rcases Nat.lt_trichotomy j i with hlt | heq | hgt
                        · have : (j + 1) * e ≤ i * e := Nat.mul_le_mul_right _ hlt
                          rw [Nat.add_mul] at this
                          omega
                        · subst heq
                          have h8 : Nat.beq j j = true := Nat.beq_refl j
                          have h9 : Nat.ble off c = true := Nat.ble_eq_true_of_le (by omega)
                          have h10 : Nat.blt c (off + xs.length) = true := Nat.ble_eq_true_of_le (by omega)
                          simp [h8, h9, h10] at hcond
                        · have : (i + 1) * e ≤ j * e := Nat.mul_le_mul_right _ hgt
                          rw [Nat.add_mul] at this
                          omega
                · cases hc)
              (fun E' _ _ _ _ av hav => by cases hav)
            exact wp_of_skip (by simp [execOp, ho, e1, hrun]) (hw' ▸ hK _ E' hE')
        · simp [Stp.get] at hu
      · simp [Stp.get] at hu
  · simp [Stp.get] at hu
end
end Go.Ve

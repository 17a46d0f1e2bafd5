/- The evaluator ("VE"): calls of the program's functions. -/
import Derived.Test.YtijabmpcicddbaaVe13
set_option linter.unusedVariables false
set_option linter.unusedSimpArgs false
namespace Go.Ve

/-- from one state to a later one: what is told of the objects below m, and of all that nobody writes -/
structure EvM (m : Nat) (E E' : Env) : Prop where
  s : ∀ b, E.S b → E'.S b
  c : ∀ b, E.S b → E'.w.heap[b]? = E.w.heap[b]?
  D : E'.D = E.D
  dom : ∀ b, E.D b → E'.w.heap[b]? = E.w.heap[b]?
  os : E'.w.os = E.w.os
  tape : E'.w.tape = E.w.tape
  output : E'.w.output = E.w.output
  size : E.w.heap.size ≤ E'.w.heap.size
  i : ∀ id, id < m → ∀ o, E.H id = some o → E'.ι id = E.ι id
  h : ∀ id, id < m → ∀ o, E.H id = some o → ∃ o', E'.H id = some o' ∧ (shape o o' = true) ∧ ((∃ ro l, o = .cells ro l) → live o' = true)
  z : ∀ id, id < m → ∀ o o' cs, E.H id = some o → E'.H id = some o' → blkd o' = true → E.blk id cs → ∃ cs', E'.blk id cs' ∧ cs'.size = cs.size

theorem EvM.refl {m : Nat} (E : Env) : EvM m E E :=
  ⟨fun _ h => h, fun _ _ => rfl, rfl, fun _ _ => rfl, rfl, rfl, rfl, Nat.le_refl _, fun _ _ _ _ => rfl, fun id _ o h => (Ev.refl E).h id o h, fun id _ o o' cs => (Ev.refl E).z id o o' cs⟩
theorem EvM.trans {m : Nat} {A B C : Env} (h : EvM m A B) (k : EvM m B C) : EvM m A C where
  s b hb := k.s b (h.s b hb)
  c b hb := (k.c b (h.s b hb)).trans (h.c b hb)
  D := k.D.trans h.D
  dom b hb := (k.dom b (by rw [h.D]; exact hb)).trans (h.dom b hb)
  os := k.os.trans h.os
  tape := k.tape.trans h.tape
  output := k.output.trans h.output
  size := Nat.le_trans h.size k.size
  i id hm o ho := by
    obtain ⟨o', h', _⟩ := h.h id hm o ho
    exact (k.i id hm o' h').trans (h.i id hm o ho)
  h id hm o ho := by
    obtain ⟨o', h', hs, hl⟩ := h.h id hm o ho
    obtain ⟨o'', h'', hs', hl'⟩ := k.h id hm o' h'
    refine ⟨o'', h'', ?_, ?_⟩
    · cases o <;> cases o' <;> cases o'' <;> simp_all [shape]
    · rintro ⟨ro, l, rfl⟩
      have h1 := hl ⟨ro, l, rfl⟩
      cases o' <;> simp_all [shape, live]
  z id hm o o' cs ho ho' hlive hb := by
    obtain ⟨o1, h1, hs, hl⟩ := h.h id hm o ho
    obtain ⟨o2, h2, hs', hl'⟩ := k.h id hm o1 h1
    have e : o2 = o' := by rw [h2] at ho'; exact Option.some.inj ho'
    subst e
    obtain ⟨c1, hc1, e1⟩ := h.z id hm o o1 cs ho h1 (shape_blkd hs' hlive) hb
    obtain ⟨c2, hc2, e2⟩ := k.z id hm o1 o2 c1 h1 h2 hlive hc1
    exact ⟨c2, hc2, e2.trans e1⟩
theorem After.evm {m : Nat} {E E' : Env} {nx : Nat} {u : Upd} {v : Value} (h : After E nx u v E') : EvM m E E' :=
  ⟨h.ev.s, h.ev.c, h.D, h.dom, h.fr.os, h.fr.tape, h.fr.output, h.fr.size, fun id _ => h.ev.i id, fun id _ => h.ev.h id, fun id _ => h.ev.z id⟩

/-- what a call is to do -/
structure CallOk (P : Program) (f : FuncId) (args : List AV) (hs : List AObj) (v : AV) (os : List AObj) : Prop where
  fn : ∃ fn, P.funcs[f]? = some fn ∧ fn.body.isNone = false ∧ (fn.name == "runtime.NumGoroutine") = false
  run : ∀ (E : Env) (vals : List Value), E.ok → (∀ id, E.H id = hs[id]?) → RL (RA E) args vals →
    Calls P f vals.toArray E.w fun e w' => ∃ x E', e = .returned x ∧ E'.w = w' ∧ E'.ok ∧ (∀ id, E'.H id = os[id]?) ∧ RA E' v x ∧ EvM hs.length E E'
def CallSem (P : Program) (call : VCall) : Prop := ∀ f args hs k r, call f args hs k = some r → ∃ v os, k v os = some r ∧ (∀ k', call f args hs k' = k' v os) ∧ CallOk P f args hs v os

section
variable {P : Program} {t : List (Nat × AV)} {h : List (Nat × AObj)} {nx : Nat} {u : Upd}

theorem zip_keys (ρ : Nat → Option Nat) : ∀ (ps : List Nat) (os : List AObj), ps.length ≤ os.length → keysOf (zipObjs ρ ps os) = ps
  | [], os, _ => by cases os <;> rfl
  | p :: ps, [], h => by simp at h
  | p :: ps, o :: os, h => by simp only [zipObjs, keysOf]; rw [zip_keys ρ ps os (by simpa using h)]
theorem zip_get (ρ : Nat → Option Nat) : ∀ (ps : List Nat) (os : List AObj) (H : Heap) (j p : Nat) (o : AObj), ps.Nodup → ps.length ≤ os.length → ps[j]? = some p → os[j]? = some o → foldA H (zipObjs ρ ps os) p = some (renObj ρ o)
  | [], os, H, j, p, o, _, _, hp, _ => by simp at hp
  | q :: ps, [], H, j, p, o, _, h, _, _ => by simp at h
  | q :: ps, x :: os, H, 0, p, o, hn, h, hp, ho => by
    simp at hp ho
    subst hp
    subst ho
    rw [List.nodup_cons] at hn
    rw [zipObjs, foldA_cons, foldA_out _ _ _ (by rw [zip_keys ρ ps os (by simpa using h)]; exact hn.1), if_pos rfl]
  | q :: ps, x :: os, H, j + 1, p, o, hn, h, hp, ho => by
    rw [List.nodup_cons] at hn
    rw [zipObjs, foldA_cons]
    exact zip_get ρ ps os _ j p o hn.2 (by simpa using h) (by simpa using hp) (by simpa using ho)

/-- behind a call: the caller's state -/
theorem call_back {E Ec E' : Env} {ps : List Nat} {os : List AObj} {v : AV} {x : Value} (hE : E.ok) (hnd : ps.Nodup) (hlen : ps.length ≤ os.length) (hsome : ∀ p, p ∈ ps → ∃ o, E.H p = some o)
    (hal : ∀ i, i < os.length - ps.length → E.H (nx + i) = none)
    (hEcH : ∀ (j p : Nat), ps[j]? = some p → Ec.ι j = E.ι p ∧ ∀ o, E.H p = some o → Ec.H j = some (renObj (idx ps) o))
    (hEcD : ∀ b, Ec.D b ↔ (E.D b ∨ ∃ id o, E.H id = some o ∧ rw o = true ∧ id ∉ ps ∧ E.ι id = b)) (hEcw : Ec.w = E.w) (hEcS : ∀ b, E.S b → Ec.S b)
    (hE' : E'.ok) (hH' : ∀ id, E'.H id = os[id]?) (hv : RA E' v x) (hev : EvM ps.length Ec E') :
    ∃ En : Env, En.w = E'.w ∧ After E nx { v := some (renAV (backRen ps nx) v), rd := ps, wr := zipObjs (backRen ps nx) ps os, al := (os.drop ps.length).map (renObj (backRen ps nx)) } x En := by
  let ρ := backRen ps nx
  let u : Upd := { v := some (renAV ρ v), rd := ps, wr := zipObjs ρ ps os, al := (os.drop ps.length).map (renObj ρ) }
  have hall : u.al.length = os.length - ps.length := by simp [u]
  let En : Env := ⟨fun id => if nx ≤ id ∧ id < nx + (os.length - ps.length) then E'.ι (ps.length + (id - nx)) else E.ι id, updH E.H u nx, E.D, E'.w⟩
  have hpsnew : ∀ p, p ∈ ps → ¬ (nx ≤ p ∧ p < nx + (os.length - ps.length)) := by
    rintro p hp ⟨h1, h2⟩
    obtain ⟨o, ho⟩ := hsome p hp
    have := hal (p - nx) (by omega)
    rw [show nx + (p - nx) = p by omega, ho] at this
    cases this
  have hkeys : keysOf u.wr = ps := zip_keys ρ ps os hlen
  -- the three kinds of objects
  have hnewH : ∀ i : Nat, i < os.length - ps.length → En.H (nx + i) = (os[ps.length + i]?).map (renObj ρ) := by
    intro i hi
    show updH E.H u nx (nx + i) = _
    rw [updH_eq, if_pos (by rw [hall]; omega), show nx + i - nx = i by omega]
    simp [u]
  have hpsH : ∀ (j p : Nat) (o : AObj), ps[j]? = some p → os[j]? = some o → En.H p = some (renObj ρ o) := by
    intro j p o hp ho
    show updH E.H u nx p = _
    rw [updH_eq, if_neg (by rw [hall]; exact hpsnew p (List.mem_of_getElem? hp))]
    exact zip_get ρ ps os E.H j p o hnd hlen hp ho
  have holdH : ∀ id, id ∉ ps → ¬ (nx ≤ id ∧ id < nx + (os.length - ps.length)) → En.H id = E.H id := by
    intro id h1 h2
    show updH E.H u nx id = _
    rw [updH_eq, if_neg (by rw [hall]; exact h2)]
    exact foldA_out _ _ _ (by rw [hkeys]; exact h1)
  have hιold : ∀ id, ¬ (nx ≤ id ∧ id < nx + (os.length - ps.length)) → En.ι id = E.ι id := fun id h => if_neg h
  have hιnew : ∀ i, i < os.length - ps.length → En.ι (nx + i) = E'.ι (ps.length + i) := by
    intro i hi
    show (if _ then _ else _) = _
    rw [if_pos (by omega), show nx + i - nx = i by omega]
  have hιps : ∀ (j p : Nat), ps[j]? = some p → E'.ι j = E.ι p := by
    intro j p hp
    obtain ⟨h1, h2⟩ := hEcH j p hp
    obtain ⟨o, ho⟩ := hsome p (List.mem_of_getElem? hp)
    rw [hev.i j (List.getElem?_eq_some_iff.1 hp).1 _ (h2 o ho), h1]
  -- every object behind it: an old one that was not handed over, or one of the callee's
  have hcase : ∀ id o, En.H id = some o → (id ∉ ps ∧ E.H id = some o ∧ En.ι id = E.ι id) ∨ (∃ j o', E'.H j = some o' ∧ ρ j = some id ∧ o = renObj ρ o' ∧ En.ι id = E'.ι j) := by
    intro id o ho
    by_cases h1 : nx ≤ id ∧ id < nx + (os.length - ps.length)
    · obtain ⟨i, rfl⟩ : ∃ i, id = nx + i := ⟨id - nx, by omega⟩
      rw [hnewH i (by omega)] at ho
      obtain ⟨o', h2, h3⟩ := Option.map_eq_some_iff.1 ho
      refine .inr ⟨ps.length + i, o', by rw [hH', h2], ?_, h3.symm, hιnew i (by omega)⟩
      show backRen ps nx (ps.length + i) = _
      unfold backRen
      have hb : Nat.blt (ps.length + i) ps.length = false := by
        cases hb : Nat.blt (ps.length + i) ps.length with
        | false => rfl
        | true => have := Nat.le_of_ble_eq_true hb; omega
      rw [hb, cond_false]
      congr 1
      omega
    · by_cases h2 : id ∈ ps
      · obtain ⟨j, hj⟩ := List.mem_iff_getElem?.1 h2
        have hjl : j < os.length := Nat.lt_of_lt_of_le (List.getElem?_eq_some_iff.1 hj).1 hlen
        have hoj : os[j]? = some os[j] := by simp [hjl]
        rw [hpsH j id os[j] hj hoj] at ho
        injection ho with ho
        refine .inr ⟨j, os[j], by rw [hH', hoj], ?_, ho.symm, by rw [hιold id h1, hιps j id hj]⟩
        show backRen ps nx j = _
        unfold backRen
        have hb : Nat.blt j ps.length = true := Nat.ble_eq_true_of_le (List.getElem?_eq_some_iff.1 hj).1
        rw [hb, cond_true, hj]
      · rw [holdH id h2 h1] at ho
        exact .inl ⟨h2, ho, hιold id h1⟩
  have hrho : ∀ j id o', ρ j = some id → E'.H j = some o' → En.H id = some (renObj ρ o') ∧ En.ι id = E'.ι j := by
    intro j id o' hj ho
    rw [hH'] at ho
    have hjl := (List.getElem?_eq_some_iff.1 ho).1
    have hj : backRen ps nx j = some id := hj
    unfold backRen at hj
    by_cases hlt : j < ps.length
    · have hb : Nat.blt j ps.length = true := Nat.ble_eq_true_of_le hlt
      rw [hb, cond_true] at hj
      exact ⟨hpsH j id o' hj ho, by rw [hιold id (hpsnew id (List.mem_of_getElem? hj)), hιps j id hj]⟩
    · have hb : Nat.blt j ps.length = false := by
        cases hb : Nat.blt j ps.length with
        | false => rfl
        | true => have := Nat.le_of_ble_eq_true hb; omega
      rw [hb, cond_false] at hj
      injection hj with hj
      subst hj
      rw [hnewH (j - ps.length) (by omega), hιnew (j - ps.length) (by omega), show ps.length + (j - ps.length) = j by omega, ho]
      exact ⟨rfl, rfl⟩
  have hES : ∀ b, E.S b → E'.S b := fun b hb => hev.s b (hEcS b hb)
  have hSn : ∀ b, E'.S b → En.S b := by
    intro b ⟨h1, h2, h3⟩
    rw [hev.D] at h2
    refine ⟨h1, fun hd => h2 ((hEcD b).2 (.inl hd)), fun id o ho hr => ?_⟩
    rcases hcase id o ho with ⟨k1, k2, k3⟩ | ⟨j, o', k1, k2, rfl, k4⟩
    · rw [k3]
      exact fun e => h2 ((hEcD b).2 (.inr ⟨id, o, k2, hr, k1, e⟩))
    · rw [k4]
      exact h3 j o' k1 (by rw [← renObj_rw ρ]; exact hr)
  have hren : Ren E' En ρ := ⟨rfl, hSn, fun j id o' hj ho => hrho j id o' hj ho⟩
  have hoblk : ∀ id o, id ∉ ps → E.H id = some o → blkd o = true → En.w.heap[E.ι id]? = E.w.heap[E.ι id]? := by
    intro id o hid ho hl
    cases hr : rw o with
    | true =>
      have := hev.dom (E.ι id) ((hEcD _).2 (.inr ⟨id, o, ho, hr, hid, rfl⟩))
      rw [hEcw] at this
      exact this
    | false =>
      have hS : E.S (E.ι id) := (hE.obj id o ho).s hr hl
      have := hev.c _ (hEcS _ hS)
      rw [hEcw] at this
      exact this
  have holdS : ∀ id o, E.H id = some o → rw o = false → blkd o = true → E.S (E.ι id) := fun id o ho hr hl => (hE.obj id o ho).s hr hl
  have hidnew : ∀ id o, E.H id = some o → ¬ (nx ≤ id ∧ id < nx + (os.length - ps.length)) := by
    rintro id o ho ⟨h1, h2⟩
    have := hal (id - nx) (by omega)
    rw [show nx + (id - nx) = id by omega, ho] at this
    cases this
  have hevn : Ev E En := {
    s := fun b hb => hSn b (hES b hb)
    c := fun b hb => by
      have := hev.c b (hEcS b hb)
      rw [hEcw] at this
      exact this
    i := fun id o ho => hιold id (hidnew id o ho)
    h := fun id o ho => by
      by_cases hid : id ∈ ps
      · obtain ⟨j, hj⟩ := List.mem_iff_getElem?.1 hid
        have hjp := (List.getElem?_eq_some_iff.1 hj).1
        have hjl : j < os.length := Nat.lt_of_lt_of_le hjp hlen
        have hoj : os[j]? = some os[j] := by simp [hjl]
        obtain ⟨_, h2⟩ := hEcH j id hj
        obtain ⟨o', h3, h4, h5⟩ := hev.h j hjp _ (h2 o ho)
        rw [hH', hoj] at h3
        injection h3 with h3
        subst h3
        refine ⟨_, hpsH j id _ hj hoj, ?_, ?_⟩
        · generalize os[j] = q at *
          cases o <;> cases q <;> simp_all [shape, renObj]
        · rintro ⟨ro, l, rfl⟩
          rw [renObj_live]
          exact h5 ⟨_, _, rfl⟩
      · exact ⟨o, by rw [holdH id hid (hidnew id o ho), ho], by cases o <;> simp [shape], fun ⟨_, _, e⟩ => by subst e; rfl⟩
    z := fun id o o' cs ho ho' hl hb => by
      by_cases hid : id ∈ ps
      · obtain ⟨j, hj⟩ := List.mem_iff_getElem?.1 hid
        have hjp := (List.getElem?_eq_some_iff.1 hj).1
        have hjl : j < os.length := Nat.lt_of_lt_of_le hjp hlen
        have hoj : os[j]? = some os[j] := by simp [hjl]
        obtain ⟨h1, h2⟩ := hEcH j id hj
        rw [hpsH j id _ hj hoj] at ho'
        injection ho' with ho'
        subst ho'
        rw [renObj_blkd] at hl
        have hbc : Ec.blk j cs := by
          obtain ⟨T, fr, k1, k2⟩ := hb
          exact ⟨T, fr, by rw [h1, hEcw, k1], k2⟩
        obtain ⟨cs', k1, k2⟩ := hev.z j hjp _ _ cs (h2 o ho) (by rw [hH', hoj]) hl hbc
        obtain ⟨T, fr, k3, k4⟩ := k1
        exact ⟨cs', ⟨T, fr, by rw [hιold id (hidnew id o ho), ← hιps j id hj]; exact k3, k4⟩, k2⟩
      · have hoo : o = o' := by
          rw [holdH id hid (hidnew id o ho), ho] at ho'
          exact Option.some.inj ho'
        subst hoo
        exact ⟨cs, Env.blk_same hb (hιold id (hidnew id o ho)) (hoblk id o hid ho hl), rfl⟩ }
  have hok : En.ok := {
    obj := fun id o ho => by
      rcases hcase id o ho with ⟨k1, k2, k3⟩ | ⟨j, o', k1, k2, rfl, k4⟩
      · exact RO.mono hevn (hE.obj id o k2) k2 fun hl => hoblk id o k1 k2 hl
      · exact RO.ren hren k4 (hE'.obj j o' k1)
    inj := fun i j oi oj hi hj hri hlj hij => by
      rcases hcase i oi hi with ⟨k1, k2, k3⟩ | ⟨i', oi', k1, k2, rfl, k4⟩
      · rcases hcase j oj hj with ⟨l1, l2, l3⟩ | ⟨j', oj', l1, l2, rfl, l4⟩
        · rw [k3, l3]; exact hE.inj i j oi oj k2 l2 hri hlj hij
        · rw [k3, l4]
          have hd : E'.D (E.ι i) := by rw [hev.D]; exact (hEcD _).2 (.inr ⟨i, oi, k2, hri, k1, rfl⟩)
          intro e
          rw [e] at hd
          exact RO.nodom hE' l1 (by rw [← renObj_blkd ρ]; exact hlj) hd
      · rcases hcase j oj hj with ⟨l1, l2, l3⟩ | ⟨j', oj', l1, l2, rfl, l4⟩
        · rw [k4, l3]
          intro e
          cases hr : rw oj with
          | true =>
            have hd : E'.D (E.ι j) := by rw [hev.D]; exact (hEcD _).2 (.inr ⟨j, oj, l2, hr, l1, rfl⟩)
            rw [← e] at hd
            exact hE'.out i' oi' k1 (by rw [← renObj_rw ρ]; exact hri) hd
          | false =>
            have := hES _ (holdS j oj l2 hr hlj)
            exact this.2.2 i' oi' k1 (by rw [← renObj_rw ρ]; exact hri) e
        · rw [k4, l4]
          refine hE'.inj i' j' oi' oj' k1 l1 (by rw [← renObj_rw ρ]; exact hri) (by rw [← renObj_blkd ρ]; exact hlj) fun e => ?_
          subst e
          rw [k2] at l2
          injection l2 with l2
          exact hij l2
    out := fun i o ho hr => by
      show ¬ E.D (En.ι i)
      rcases hcase i o ho with ⟨k1, k2, k3⟩ | ⟨j, o', k1, k2, rfl, k4⟩
      · rw [k3]; exact hE.out i o k2 hr
      · rw [k4]
        intro hd
        exact hE'.out j o' k1 (by rw [← renObj_rw ρ]; exact hr) (by rw [hev.D]; exact (hEcD _).2 (.inl hd))
    dom := fun b hb => Nat.lt_of_lt_of_le (hE.dom b hb) (by have := hev.size; rw [hEcw] at this; exact this)
    gl := hE.gl.mono hevn.s hevn.c }
  refine ⟨En, rfl, rfl, hok, hevn, ⟨?_, ?_, ?_, ?_⟩, fun av hav => ?_, rfl, fun b hb => ?_⟩
  · have := hev.os; rw [hEcw] at this; exact this
  · have := hev.tape; rw [hEcw] at this; exact this
  · have := hev.output; rw [hEcw] at this; exact this
  · have := hev.size; rw [hEcw] at this; exact this
  · injection hav with hav
    subst hav
    exact RA.ren hren hv
  · have := hev.dom b ((hEcD b).2 (.inl hb)); rw [hEcw] at this; exact this
end
end Go.Ve

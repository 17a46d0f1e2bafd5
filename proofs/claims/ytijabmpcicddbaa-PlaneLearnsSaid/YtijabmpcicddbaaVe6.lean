/- The evaluator ("VE"): reading memory; addresses; cuts; lengths. -/
import Derived.Test.YtijabmpcicddbaaVe5
set_option linter.unusedVariables false
set_option linter.unusedSimpArgs false
namespace Go.Ve
section
variable {P : Program} {t : List (Nat × AV)} {h : List (Nat × AObj)} {nx : Nat} {u : Upd}

theorem add_plain (b o n : Nat) : (⟨b, o, none⟩ : Addr).add n = ⟨b, o + n, none⟩ := by unfold Addr.add; split <;> simp_all
theorem add_add (a : Addr) (i j : Nat) : (a.add i).add j = a.add (i + j) := by
  unfold Addr.add
  split <;> split <;> split <;> simp_all <;> omega

theorem cut_eq {l r : List CV} {off n : Nat} (hc : cut l off n = some r) : r = (l.drop off).take n ∧ r.length = n := by
  unfold cut at hc
  cases hb : Nat.beq ((l.drop off).take n).length n with
  | false => simp only [hb, cond_false] at hc; cases hc
  | true =>
    simp only [hb, cond_true, Option.some.injEq] at hc
    subst hc
    exact ⟨rfl, Nat.eq_of_beq_eq_true hb⟩

/-- a variable read: its cells, packed -/
theorem run_loadVar_rel {E : Env} {T : Nat} {td : TD} (ht : TdOk P T td) {a : Addr} {l : List CV} {vs : List Value} {v : VV} (hl : RL (RC E) l vs) (hn : l.length = td.size)
    (hc : ∀ j x, vs[j]? = some x → E.w.cell? (a.add j) = some x) (hp : pack td.k l = some v) : ∃ y, (loadVar T a).run P E.w = .ok y E.w ∧ RV E v y := by
  have hlen := hl.length
  unfold pack at hp
  cases hk : isAgg td.k with
  | true =>
    simp only [hk, cond_true, Option.some.injEq] at hp
    subst hp
    refine ⟨.agg vs.toArray, ?_, vs.toArray, rfl, by simpa using hl⟩
    have := run_loadCells_list (P := P) E.w a vs hc
    rw [← hlen, hn] at this
    simp [loadVar, ht.run_isAgg, hk, ht.run_sizeOf, this]
  | false =>
    simp only [hk, cond_false] at hp
    split at hp
    · injection hp with hp
      subst hp
      cases hl with
      | cons h1 h2 =>
        cases h2
        rename_i y
        have := hc 0 y rfl
        rw [show a.add 0 = a by simp [Addr.add]] at this
        exact ⟨y, by simp [loadVar, ht.run_isAgg, hk, this], h1⟩
    · cases hp

theorem pcells_rel {E : Env} {g : Nat → PV} {b p : Nat} : ∀ {n off : Nat}, (∀ c, off ≤ c → c < off + n → ∃ y, E.w.cell? ⟨b, p + c, none⟩ = some y ∧ RP E.S E.w (g c) y) →
    ∃ vs : List Value, vs.length = n ∧ RL (RC E) (pcells g off n) vs ∧ ∀ (j : Nat) (x : Value), vs[j]? = some x → E.w.cell? ⟨b, p + off + j, none⟩ = some x
  | 0, off, _ => ⟨[], rfl, .nil, fun j x hx => by simp at hx⟩
  | n + 1, off, hc => by
    obtain ⟨y, hy, hr⟩ := hc off (Nat.le_refl _) (by omega)
    obtain ⟨vs, h1, h2, h3⟩ := pcells_rel (E := E) (g := g) (b := b) (p := p) (n := n) (off := off + 1) fun c hc1 hc2 => hc c (by omega) (by omega)
    refine ⟨y :: vs, by simp [h1], .cons hr h2, fun j x hx => ?_⟩
    cases j with
    | zero => simp at hx; subst hx; exact hy
    | succ j => have := h3 j x (by simpa using hx); rw [show p + off + (j + 1) = p + (off + 1) + j by omega]; exact this

theorem cells_block {E : Env} {id : Nat} {cs : Array Value} (hb : E.blk id cs) (j : Nat) : E.w.cell? ⟨E.ι id, j, none⟩ = cs[j]? := by
  obtain ⟨T, fr, hg, _⟩ := hb
  exact cell_of_row E.w _ j cs T fr hg

theorem evLoad_ok {tt : Nat → Option TD} (hT : TT P tt) {T : Nat} {p : CV} (hu : (evLoad tt h T p).get = some u) : ∃ v, u.v = some (.v v) ∧ u = { v := u.v, rd := u.rd } ∧
    ∀ E : Env, E.ok → (∀ id, id ∈ u.rd → E.H id = aget h id) → ∀ pv, RC E p pv → ∃ y, (Instr.loadAt T pv).run P E.w = .ok y E.w ∧ RV E v y := by
  unfold evLoad at hu
  split at hu
  · rename_i id off
    split at hu
    · rename_i ro l td hid htd
      obtain ⟨v, hv, hu⟩ := Stp.of_get hu
      simp only [Stp.get, Option.some.injEq] at hu
      subst hu
      cases hcut : cut l off td.size with
      | none => simp [hcut] at hv
      | some r =>
        simp only [hcut, Option.bind_some] at hv
        refine ⟨v, rfl, rfl, fun E hE hrd pv hp => ?_⟩
        have hid' := (hrd id (by simp)).trans hid
        simp only [RC, hid'] at hp
        subst hp
        obtain ⟨cs, hb, hl, _⟩ := hE.obj id _ hid'
        obtain ⟨rfl, hn⟩ := cut_eq hcut
        have hl' := (hl.drop off).take td.size
        obtain ⟨y, hy, hr⟩ := run_loadVar_rel (P := P) (hT T td htd) (a := ⟨E.ι id, off, none⟩) hl' hn (fun j x hx => by
          rw [add_plain, cells_block hb]
          rw [List.getElem?_take] at hx
          split at hx
          · rw [List.getElem?_drop] at hx
            simpa using hx
          · cases hx) hv
        exact ⟨y, by simpa [Instr.loadAt, Instr.sureAddr] using hy, hr⟩
    · simp [Stp.get] at hu
  · rename_i id i off
    split at hu
    · rename_i ro nl kk e n f td hid htd
      cases hle : Nat.ble (off + td.size) e with
      | false => simp [hle, Stp.get] at hu
      | true =>
        simp only [hle, cond_true] at hu
        obtain ⟨v, hv, hu⟩ := Stp.of_get hu
        simp only [Stp.get, Option.some.injEq] at hu
        subst hu
        refine ⟨v, rfl, rfl, fun E hE hrd pv hp => ?_⟩
        have hid' := (hrd id (by simp)).trans hid
        simp only [RC, hid'] at hp
        obtain ⟨rfl, hi⟩ := hp
        obtain ⟨_, cs, hb, hn, hkk, hl, _⟩ := (hE.obj id _ hid').real (by omega)
        have hle' := Nat.le_of_ble_eq_true hle
        obtain ⟨vs, h1, h2, h3⟩ := pcells_rel (E := E) (g := elemF kk (f i)) (b := E.ι id) (p := i * e) (n := td.size) (off := off) fun c hc1 hc2 => by
          obtain ⟨y, hy, hr⟩ := hl i hi c (by omega)
          exact ⟨y, by rw [cells_block hb]; exact hy, RP.norm (hkk i hi c) hr⟩
        obtain ⟨y, hy, hr⟩ := run_loadVar_rel (P := P) (hT T td htd) (a := ⟨E.ι id, i * e + off, none⟩) h2 (by rw [h2.length, h1]) (fun j x hx => by rw [add_plain]; exact h3 j x hx) hv
        exact ⟨y, by simpa [Instr.loadAt, Instr.sureAddr] using hy, hr⟩
    · simp [Stp.get] at hu
  · rename_i e f off
    split at hu
    · rename_i td htd
      cases hle : Nat.ble (off + td.size) e with
      | false => simp [hle, Stp.get] at hu
      | true =>
        simp only [hle, cond_true] at hu
        obtain ⟨v, hv, hu⟩ := Stp.of_get hu
        simp only [Stp.get, Option.some.injEq] at hu
        subst hu
        refine ⟨v, rfl, rfl, fun E hE hrd pv hp => ?_⟩
        obtain ⟨b, p, rfl, _, hc⟩ := hp
        have hle' := Nat.le_of_ble_eq_true hle
        obtain ⟨vs, h1, h2, h3⟩ := pcells_rel (E := E) (g := f) (b := b) (p := p) (n := td.size) (off := off) fun c hc1 hc2 => hc c (by omega)
        obtain ⟨y, hy, hr⟩ := run_loadVar_rel (P := P) (hT T td htd) (a := ⟨b, p + off, none⟩) h2 (by rw [h2.length, h1]) (fun j x hx => by rw [add_plain]; exact h3 j x hx) hv
        exact ⟨y, by simpa [Instr.loadAt, Instr.sureAddr] using hy, hr⟩
    · simp [Stp.get] at hu
  · simp [Stp.get] at hu

theorem ok_load {tt : Nat → Option TD} (hT : TT P tt) {T : Nat} {x : Operand} {p : CV} (hx : opnd t x = some (.c p)) (hu : (evLoad tt h T p).get = some u) : OpOk P (.load T x) t h nx u := by
  obtain ⟨v, h1, h2, h3⟩ := evLoad_ok (P := P) hT hu
  rw [h2, h1]
  rw [h2, h1] at hu
  refine opOk_val fun o ho E a hA => ?_
  obtain ⟨y, hy, hr⟩ := h3 E hA.ok hA.rd _ (opnd_in hA (by simp [Op.operands]) hx)
  exact ⟨y, by simp [execOp, ho, hy], hr⟩

/-! ### addresses -/
theorem field_of {T : Nat} {td : TD} (ht : TdOk P T td) {fs : List (Nat × Nat)} (hk : td.k = .strct fs) {i : Nat} {f : Nat × Nat} (hf : fs[i]? = some f) :
    ∃ gs : Array Field, ∃ g : Field, P.underlying T = some (.struct gs) ∧ gs[i]? = some g ∧ f = (g.offset, P.cellsOf g.type) ∧ (P.info? g.type).isSome = true := by
  obtain ⟨d, hd, hkd⟩ := ht.und
  rw [hk] at hkd
  cases d <;> simp only [kindOk] at hkd
  rename_i gs
  obtain ⟨hl, hg⟩ := hkd
  have hi : i < gs.size := by
    have := (List.getElem?_eq_some_iff.1 hf).1
    omega
  obtain ⟨h1, h2⟩ := hg i gs[i] (by simp [hi])
  rw [hf] at h1
  exact ⟨gs, gs[i], hd, by simp [hi], by injection h1, h2⟩
theorem run_fieldPlace {f : Field} {w : World} {n : Nat} (hs : P.cellsOf f.type = n) (hi : (P.info? f.type).isSome = true) (hn : n ≠ 0) (a : Addr) : (fieldPlace a f).run P w = .ok (a.add f.offset) w := by
  obtain ⟨i, hi⟩ := Option.isSome_iff_exists.1 hi
  have : i.size ≠ 0 := by simp [Program.cellsOf, hi] at hs; omega
  simp [fieldPlace, sizeOf, typeInfo, hi, this]

theorem ok_fieldAddr {tt : Nat → Option TD} (hT : TT P tt) {T i : Nat} {x : Operand} {p : CV} (hx : opnd t x = some (.c p)) (hu : (evFieldAddr tt h T i p).get = some u) : OpOk P (.fieldAddr T x i) t h nx u := by
  have main : ∀ {fs : List (Nat × Nat)} {td : TD} {f : Nat × Nat} {q : CV}, tt T = some td → td.k = .strct fs → fs[i]? = some f → f.2 ≠ 0 →
      (∀ E v, RC E p v → ∃ b o, v = .pointer (some ⟨b, o, none⟩) ∧ RC E q (.pointer (some ⟨b, o + f.1, none⟩))) → OpOk P (.fieldAddr T x i) t h nx { v := some (.c q) } := by
    intro fs td f q htd hk hf hn hq
    refine opOk_val fun o ho E a hA => ?_
    obtain ⟨b, o', e, hr⟩ := hq E _ (opnd_in hA (by simp [Op.operands]) hx)
    obtain ⟨gs, g, hund, hg, rfl, hsome⟩ := field_of (hT T td htd) hk hf
    refine ⟨_, ?_, hr⟩
    simp only [execOp, ho, e, Instr.fieldAt, Instr.sureAddr, Sem.run_bind, Go.run_underlying hund, Result.andThen_ok, hg, Sem.run_pure, run_fieldPlace rfl hsome hn, add_plain]
  unfold evFieldAddr at hu
  split at hu
  · rename_i id off
    split at hu
    · rename_i fs sz by' z phl htd
      obtain ⟨f, hf, hu⟩ := Stp.of_get hu
      cases hz : Nat.beq f.2 0 with
      | true => simp [hz, Stp.get] at hu
      | false =>
        simp only [hz, cond_false, Stp.get, Option.some.injEq] at hu
        subst hu
        refine main htd rfl hf (by intro e; rw [e] at hz; simp at hz) fun E v hv => ?_
        simp only [RC] at hv
        split at hv
        · rename_i heq
          exact ⟨_, _, hv, by simp [RC, heq]⟩
        · exact hv.elim
    · simp [Stp.get] at hu
  · rename_i id j off
    split at hu
    · rename_i fs sz by' z phl htd
      obtain ⟨f, hf, hu⟩ := Stp.of_get hu
      cases hz : Nat.beq f.2 0 with
      | true => simp [hz, Stp.get] at hu
      | false =>
        simp only [hz, cond_false] at hu
        split at hu
        · rename_i ob hob
          cases hlv : live ob with
          | false => simp [hlv, Stp.get] at hu
          | true =>
            simp only [hlv, cond_true, Stp.get, Option.some.injEq] at hu
            subst hu
            refine opOk_val fun o ho E a hA => ?_
            have hv := opnd_in hA (by simp [Op.operands]) hx
            have hid := (hA.rd id (by simp)).trans hob
            simp only [RA, RV, RC, hid] at hv
            cases ob with
            | dead => simp [live] at hlv
            | cells => exact hv.elim
            | mapo => exact hv.elim
            | parr ro nl kk e n g' =>
              obtain ⟨e', hj⟩ := hv
              obtain ⟨gs, g, hund, hg, rfl, hsome⟩ := field_of (hT T _ htd) rfl hf
              refine ⟨.pointer (some ⟨E.ι id, j * e + off + g.offset, none⟩), ?_, ?_⟩
              · simp only [execOp, ho, e', Instr.fieldAt, Instr.sureAddr, Sem.run_bind, Go.run_underlying hund, Result.andThen_ok, hg, Sem.run_pure, run_fieldPlace rfl hsome (by intro e; simp [e] at hz), add_plain]
              · simp only [RA, RV, RC, hid]
                exact ⟨by rw [Nat.add_assoc], hj⟩
        · simp [Stp.get] at hu
    · simp [Stp.get] at hu
  · rename_i e g off
    split at hu
    · rename_i fs sz by' z phl htd
      obtain ⟨f, hf, hu⟩ := Stp.of_get hu
      cases hz : Nat.beq f.2 0 with
      | true => simp [hz, Stp.get] at hu
      | false =>
        simp only [hz, cond_false, Stp.get, Option.some.injEq] at hu
        subst hu
        refine main htd rfl hf (by intro e; rw [e] at hz; simp at hz) fun E v hv => ?_
        obtain ⟨b, p, rfl, hs, hc⟩ := hv
        exact ⟨_, _, rfl, b, p, by rw [Nat.add_assoc], hs, hc⟩
    · simp [Stp.get] at hu
  · simp [Stp.get] at hu
end
end Go.Ve

/- The evaluator ("VE"): arithmetic, comparisons, strings, conversions, lengths. -/
import Derived.Test.YtijabmpcicddbaaVe4
set_option linter.unusedVariables false
set_option linter.unusedSimpArgs false
namespace Go.Ve
section
variable {P : Program} {t : List (Nat × AV)} {h : List (Nat × AObj)} {nx : Nat} {u : Upd}

theorem ok_un {op : UnOp} {T : Nat} {x : Operand} {v : VV} (hx : opv t x = some v) (hu : (evUn op v).get = some u) : OpOk P (.unOp op T x) t h nx u := by
  unfold evUn at hu
  split at hu <;> simp only [Stp.get, Option.some.injEq, reduceCtorEq] at hu <;> subst hu
  all_goals
    refine opOk_val fun o ho E a hA => ?_
    have hv := (opv_in hA (by simp [Op.operands]) hx)
    obtain ⟨hv, _⟩ := hv
  · exact ⟨_, by simp [execOp, ho, hv, Op.unary, Op.intArith], rfl, rfl⟩
  · exact ⟨_, by simp [execOp, ho, hv, Op.unary, intBits_xor], rfl, rfl⟩
  · exact ⟨_, by simp [execOp, ho, hv, Op.unary], rfl, rfl⟩

theorem run_evInt {op : BinOp} {T : TypeId} {k : IntKind} {x y : Int} {w : World} (hu : (evInt op k x y).get = some u) :
    ∃ v, (binOp op T (.int k x) (.int k y)).run P w = .ok v w ∧ v.oneCell' = true ∧ u = { v := some (.val v) } := by
  cases op <;> simp only [evInt, Stp.get, Option.some.injEq, reduceCtorEq] at hu
  case quo =>
    cases hy : (y == 0) with
    | true => simp [hy] at hu
    | false =>
      simp [hy] at hu
      subst hu
      have : ¬ y = 0 := by simpa using hy
      exact ⟨_, by simp [binOp_quo, Op.intDiv, this], rfl, rfl⟩
  case rem =>
    cases hy : (y == 0) with
    | true => simp [hy] at hu
    | false =>
      simp [hy] at hu
      subst hu
      have : ¬ y = 0 := by simpa using hy
      exact ⟨_, by simp [binOp_rem, Op.intDiv, this], rfl, rfl⟩
  all_goals
    subst hu
    refine ⟨_, ?_, rfl, rfl⟩
    first
      | simp [binOp_add, Op.intArith]; done
      | simp [binOp_sub, Op.intArith]; done
      | simp [binOp_mul, Op.intArith]; done
      | simp [binOp_and, intBits_and]; done
      | simp [binOp_or, intBits_or]; done
      | simp [binOp_xor, intBits_xor]; done
      | simp [binOp_andNot, intBits_andNot]; done
      | simp [binOp_eql, binOp_neq, binOp_lss, binOp_leq, binOp_gtr, binOp_geq]; done

theorem run_evShift {op : BinOp} {T : TypeId} {k k' : IntKind} {x y : Int} {w : World} (hu : (evShift op k x y).get = some u) :
    ∃ v, (binOp op T (.int k x) (.int k' y)).run P w = .ok v w ∧ v.oneCell' = true ∧ u = { v := some (.val v) } := by
  cases op <;> simp only [evShift, Stp.get, reduceCtorEq] at hu
  all_goals
    by_cases hy : y < 0
    · simp [hy] at hu
    · simp [hy] at hu
      subst hu
      refine ⟨_, ?_, rfl, rfl⟩
      simp [binOp_shl, binOp_shr, Op.shift, hy, shlI, shrI]

theorem run_evStr {op : BinOp} {T : TypeId} {x y : ByteArray} {w : World} (hu : (evStr op x y).get = some u) :
    ∃ v, (binOp op T (.string x) (.string y)).run P w = .ok v w ∧ v.oneCell' = true ∧ u = { v := some (.val v) } := by
  cases op <;> simp only [evStr, Stp.get, Option.some.injEq, reduceCtorEq] at hu
  case add =>
    cases hy : Nat.ble (x.size + y.size) 4611686018427387904 with
    | false => simp [hy] at hu
    | true =>
      simp [hy] at hu
      subst hu
      have h1 := Nat.le_of_ble_eq_true hy
      refine ⟨_, ?_, rfl, rfl⟩
      have h2 : ¬ (((x.size + y.size : Nat) : Int) > IntKind.i64.max) := by simp only [IntKind.max_i64]; omega
      simp only [binOp, Op.stringOp]
      rw [if_neg h2]
      rfl
  all_goals
    subst hu
    exact ⟨_, by simp [binOp, Op.stringOp], rfl, rfl⟩

/-- what the comparison of a type's values asks (proved for each type of a translation that 'eqs' names) -/
def EqOk0 (P : Program) (tt : Nat → Option TD) (eqs : Nat → Bool) : Prop :=
  ∀ T td, eqs T = true → tt T = some td → ∀ (E : Env) (l r : List CV) (xs ys : Array Value) (b : Bool), eqCells td.zero l r = some b → RL (RC E) l xs.toList → RL (RC E) r ys.toList →
    ∀ op x y, (eqGuard op T x y (.agg xs) (.agg ys)).run P E.w = .ok () E.w ∧ (Op.equal T (.agg xs) (.agg ys)).run P E.w = .ok b E.w
/-- what is asked of a struct's type whose values are keys -/
def KeysOk (P : Program) (tt : Nat → Option TD) (eqs : Nat → Bool) : Prop :=
  ∀ T td, eqs T = true → tt T = some td → ∀ (E : Env) (l : List PV) (xs : Array Value) (em : Bool), keyIs td.zero l = true → RL (RC E) (l.map .pv) xs.toList → (Instr.checkKey em 10000 T (.agg xs)).run P E.w = .ok () E.w

/-- what 'isNil' has seen -/
def Nilly (p b : Bool) (v : Value) : Prop :=
  match p, b with
  | true, true => v = .pointer none
  | true, false => ∃ a, v = .pointer (some a)
  | false, true => ∃ n c, v = .slice none n c
  | false, false => ∃ a n c, v = .slice (some a) n c
theorem isNil_rel {p : Bool} {x : CV} {b : Bool} {r : List Nat} (hx : isNil h p x = some (b, r)) {E : Env} (hrd : ∀ id, id ∈ r → E.H id = aget h id) {v : Value} (hv : RC E x v) : Nilly p b v := by
  have key : ∀ id o, (match aget h id with | some .dead | none => none | some _ => some (false, [id])) = some (b, r) → E.H id = some o → live o = true ∧ b = false := by
    intro id o h1 h2
    cases ha : aget h id with
    | none => simp [ha] at h1
    | some o' =>
      have hb : b = false ∧ r = [id] := by cases o' <;> simp_all
      have := hrd id (by rw [hb.2]; simp)
      rw [h2, ha] at this
      injection this with this
      subst this
      refine ⟨?_, hb.1⟩
      cases o <;> simp_all [live]
  have keyS : ∀ id, (match aget h id with | some (.parr _ nl _ _ _ _) => some (nl, [id]) | _ => none) = some (b, r) → ∃ ro nl k e n f, E.H id = some (.parr ro nl k e n f) ∧ b = nl := by
    intro id h1
    split at h1
    · rename_i ro nl k e n f ha
      injection h1 with h1
      injection h1 with h1 h2
      exact ⟨ro, nl, k, e, n, f, (hrd id (by rw [← h2]; simp)).trans ha, h1.symm⟩
    · cases h1
  cases x with
  | pv q =>
    cases q with
    | sl nl k e n f =>
      cases p <;> simp [isNil] at hx
      obtain ⟨_, ad, cap, e, _, hnl, _⟩ := hv
      obtain ⟨rfl, _⟩ := hx
      cases ad with
      | none => subst hnl; exact ⟨_, _, e⟩
      | some ad => subst hnl; exact ⟨_, _, _, e⟩
    | val v' =>
      obtain ⟨rfl, h1⟩ := hv
      cases p <;> cases v <;> simp [isNil] at hx
      case true.pointer a =>
        cases a <;> simp at hx
        obtain ⟨rfl, _⟩ := hx
        rfl
      case false.slice a n c =>
        cases a <;> simp at hx
        obtain ⟨rfl, _⟩ := hx
        exact ⟨_, _, rfl⟩
  | dead => cases p <;> simp [isNil] at hx
  | ptr id off =>
    cases p <;> simp only [isNil, reduceCtorEq] at hx
    simp only [RC] at hv
    split at hv
    · rename_i heq
      rw [(key id _ hx heq).2]
      exact ⟨_, hv⟩
    · exact hv.elim
  | ept id i off =>
    cases p <;> simp only [isNil, reduceCtorEq] at hx
    simp only [RC] at hv
    split at hv
    · rename_i heq
      rw [(key id _ hx heq).2]
      exact ⟨_, hv.1⟩
    · rename_i heq; have := (key id _ hx heq).1; simp [live] at this
    · exact hv.elim
  | pel e g off =>
    cases p <;> simp [isNil] at hx
    obtain ⟨b', p, e, _⟩ := hv
    obtain ⟨rfl, _⟩ := hx
    exact ⟨_, e⟩
  | own id =>
    cases p <;> simp only [isNil, reduceCtorEq] at hx
    obtain ⟨ro, nl, k, e, n, f, ho, rfl⟩ := keyS id hx
    simp only [RC, ho] at hv
    rcases hv.2 with ⟨rfl, _, rfl⟩ | ⟨rfl, cap, cs, rfl, _⟩
    · exact ⟨_, _, rfl⟩
    · exact ⟨_, _, _, rfl⟩
  | pre id m =>
    cases p <;> simp only [isNil, reduceCtorEq] at hx
    obtain ⟨ro, nl, k, e, n, f, ho, rfl⟩ := keyS id hx
    simp only [RC, ho] at hv
    rcases hv.2 with ⟨rfl, _, rfl⟩ | ⟨rfl, cap, cs, rfl, _⟩
    · exact ⟨_, _, rfl⟩
    · exact ⟨_, _, _, rfl⟩
  | sub id lo m =>
    cases p <;> simp only [isNil, reduceCtorEq] at hx
    obtain ⟨ro, nl, k, e, n, f, ho, rfl⟩ := keyS id hx
    simp only [RC, ho] at hv
    rcases hv.2 with ⟨rfl, _, rfl⟩ | ⟨rfl, ad, cap, rfl, _⟩
    · exact ⟨_, _, rfl⟩
    · exact ⟨_, _, _, rfl⟩
  | csl id b' m e =>
    cases p <;> simp only [isNil, reduceCtorEq] at hx
    have hb : b = false := by
      split at hx
      · injection hx with hx; injection hx with hx; exact hx.symm
      · cases hx
    simp only [RC] at hv
    split at hv
    · obtain ⟨_, ad, cap, e, _⟩ := hv
      subst hb
      exact ⟨_, _, _, e⟩
    · exact hv.elim
  | mp id => cases p <;> simp [isNil] at hx
  | clo f c => cases p <;> simp [isNil] at hx

theorem run_equal_nil {T : Nat} {td : TD} (ht : TdOk P T td) {p : Bool} (hk : (p = false ∧ ∃ e, td.k = .slc e) ∨ (p = true ∧ ∃ e, td.k = .ptr e)) {v v' : Value} {b b' : Bool} {w : World}
    (h1 : Nilly p b v) (h2 : Nilly p b' v') (hor : (b || b') = true) : (Op.equal T v v').run P w = .ok (b && b') w := by
  obtain ⟨d, hd, hkd⟩ := ht.und
  have hm : Op.maxDepth = 9999 + 1 := rfl
  rw [Op.equal, hm]
  generalize 9999 = dd
  rcases hk with ⟨rfl, e, he⟩ | ⟨rfl, e, he⟩
  · rw [he] at hkd
    cases d <;> simp [kindOk] at hkd
    subst hkd
    cases b <;> cases b' <;> simp at hor <;> simp only [Nilly] at h1 h2
    · obtain ⟨a, n, c, rfl⟩ := h1; obtain ⟨n', c', rfl⟩ := h2; simp [Op.equalIn, Go.run_underlying hd]
    · obtain ⟨n, c, rfl⟩ := h1; obtain ⟨a', n', c', rfl⟩ := h2; simp [Op.equalIn, Go.run_underlying hd]
    · obtain ⟨n, c, rfl⟩ := h1; obtain ⟨n', c', rfl⟩ := h2; simp [Op.equalIn, Go.run_underlying hd]
  · rw [he] at hkd
    cases d <;> simp [kindOk] at hkd
    subst hkd
    cases b <;> cases b' <;> simp at hor <;> simp only [Nilly] at h1 h2
    · obtain ⟨a, rfl⟩ := h1; subst h2; simp [Op.equalIn, Go.run_underlying hd]
    · obtain ⟨a', rfl⟩ := h2; subst h1; simp [Op.equalIn, Go.run_underlying hd]
    · subst h1 h2; simp [Op.equalIn, Go.run_underlying hd]

theorem nilly_eqGuard {p b : Bool} {v : Value} (hv : Nilly p b v) (op : BinOp) (T : TypeId) (x y : Operand) (v' : Value) : eqGuard op T x y v v' = pure () := by
  cases p <;> cases b <;> simp only [Nilly] at hv
  · obtain ⟨a, n, c, rfl⟩ := hv; exact eqGuard_at_slice ..
  · obtain ⟨n, c, rfl⟩ := hv; exact eqGuard_at_slice ..
  · obtain ⟨a, rfl⟩ := hv; exact eqGuard_at_pointer ..
  · subst hv; exact eqGuard_at_pointer ..
theorem nilly_binOp {p b b' : Bool} {v v' : Value} (hv : Nilly p b v) (hv' : Nilly p b' v') (T : TypeId) :
    binOp .eql T v v' = (do pure (.bool (← Op.equal T v v'))) ∧ binOp .neq T v v' = (do pure (.bool (!(← Op.equal T v v')))) := by
  cases p <;> cases b <;> simp only [Nilly] at hv <;> cases b' <;> simp only [Nilly] at hv'
  · obtain ⟨a, n, c, rfl⟩ := hv; obtain ⟨a, n, c, rfl⟩ := hv'; exact ⟨rfl, rfl⟩
  · obtain ⟨a, n, c, rfl⟩ := hv; obtain ⟨n, c, rfl⟩ := hv'; exact ⟨rfl, rfl⟩
  · obtain ⟨n, c, rfl⟩ := hv; obtain ⟨a, n, c, rfl⟩ := hv'; exact ⟨rfl, rfl⟩
  · obtain ⟨n, c, rfl⟩ := hv; obtain ⟨n, c, rfl⟩ := hv'; exact ⟨rfl, rfl⟩
  · obtain ⟨a, rfl⟩ := hv; obtain ⟨a, rfl⟩ := hv'; exact ⟨rfl, rfl⟩
  · obtain ⟨a, rfl⟩ := hv; subst hv'; exact ⟨rfl, rfl⟩
  · subst hv; obtain ⟨a, rfl⟩ := hv'; exact ⟨rfl, rfl⟩
  · subst hv hv'; exact ⟨rfl, rfl⟩

/-- the comparison of two values of a type -/
theorem evEq_ok {tt : Nat → Option TD} {eqs : Nat → Bool} (hT : TT P tt) (hE : EqOk0 P tt eqs) {T : Nat} {x y : VV} {b : Bool} {r : List Nat} (he : evEq tt eqs h T x y = some (b, r))
    {E : Env} (hrd : ∀ id, id ∈ r → E.H id = aget h id) {v v' : Value} (hv : RV E x v) (hv' : RV E y v') (xo yo : Operand) :
    ((do eqGuard .eql T xo yo v v'; binOp .eql T v v').run P E.w = .ok (.bool b) E.w) ∧ ((do eqGuard .neq T xo yo v v'; binOp .neq T v v').run P E.w = .ok (.bool !b) E.w) := by
  unfold evEq at he
  cases htd : tt T with
  | none => simp [htd] at he
  | some td =>
    simp only [htd] at he
    have ht := hT T td htd
    split at he
    · rename_i b1 b2 hk
      simp only [Option.some.injEq, Prod.mk.injEq] at he
      obtain ⟨rfl, rfl⟩ := he
      obtain ⟨rfl, _⟩ := hv
      obtain ⟨rfl, _⟩ := hv'
      obtain ⟨d, hd, hkd⟩ := ht.und
      rw [hk] at hkd
      cases d <;> simp [kindOk] at hkd
      have hm : Op.maxDepth = 9999 + 1 := rfl
      have q : (Op.equal T (.bool b1) (.bool b2)).run P E.w = .ok (b1 == b2) E.w := by
        rw [Op.equal, hm]
        generalize 9999 = dd
        simp [Op.equalIn, Go.run_underlying hd]
      constructor
      · simp only [eqGuard_at_bool, Sem.run_bind, Sem.run_pure, Result.andThen_ok, show binOp .eql T (.bool b1) (.bool b2) = (do pure (.bool (← Op.equal T (.bool b1) (.bool b2)))) from rfl, q]
      · simp only [eqGuard_at_bool, Sem.run_bind, Sem.run_pure, Result.andThen_ok, show binOp .neq T (.bool b1) (.bool b2) = (do pure (.bool (!(← Op.equal T (.bool b1) (.bool b2))))) from rfl, q]
    · rename_i x y hk
      split at he
      · rename_i b1 r1 b2 r2 h1 h2
        have hor : (b1 || b2) = true ∧ (b1 && b2) = b ∧ r1 ++ r2 = r := by cases b1 <;> cases b2 <;> simp_all
        obtain ⟨hor, rfl, rfl⟩ := hor
        · have n1 := isNil_rel h1 (fun id hid => hrd id (by simp [hid])) hv
          have n2 := isNil_rel h2 (fun id hid => hrd id (by simp [hid])) hv'
          have q := run_equal_nil ht (.inl ⟨rfl, _, hk⟩) n1 n2 hor (w := E.w)
          rw [nilly_eqGuard n1, nilly_eqGuard n1, (nilly_binOp n1 n2 T).1, (nilly_binOp n1 n2 T).2]
          constructor <;> simp [q]
      · cases he
    · rename_i x y hk
      split at he
      · rename_i b1 r1 b2 r2 h1 h2
        have hor : (b1 || b2) = true ∧ (b1 && b2) = b ∧ r1 ++ r2 = r := by cases b1 <;> cases b2 <;> simp_all
        obtain ⟨hor, rfl, rfl⟩ := hor
        · have n1 := isNil_rel h1 (fun id hid => hrd id (by simp [hid])) hv
          have n2 := isNil_rel h2 (fun id hid => hrd id (by simp [hid])) hv'
          have q := run_equal_nil ht (.inr ⟨rfl, _, hk⟩) n1 n2 hor (w := E.w)
          rw [nilly_eqGuard n1, nilly_eqGuard n1, (nilly_binOp n1 n2 T).1, (nilly_binOp n1 n2 T).2]
          constructor <;> simp [q]
      · cases he
    all_goals
      first
        | (cases he; done)
        | skip
    all_goals
      rename_i l r' hk
      cases hq : eqs T with
      | false => simp [hq] at he
      | true =>
        simp only [hq, cond_true] at he
        cases hc : eqCells td.zero l r' with
        | none => simp [hc] at he
        | some b' =>
          simp only [hc, Option.map_some, Option.some.injEq, Prod.mk.injEq] at he
          obtain ⟨rfl, rfl⟩ := he
          obtain ⟨xs, rfl, hl⟩ := hv
          obtain ⟨ys, rfl, hl'⟩ := hv'
          have q1 := hE T td hq htd E l r' xs ys b' hc hl hl' .eql xo yo
          have q2 := hE T td hq htd E l r' xs ys b' hc hl hl' .neq xo yo
          constructor
          · simp only [Sem.run_bind, q1.1, Result.andThen_ok, show binOp .eql T (.agg xs) (.agg ys) = (do pure (.bool (← Op.equal T (.agg xs) (.agg ys)))) from rfl, q1.2, Sem.run_pure]
          · simp only [Sem.run_bind, q2.1, Result.andThen_ok, show binOp .neq T (.agg xs) (.agg ys) = (do pure (.bool (!(← Op.equal T (.agg xs) (.agg ys))))) from rfl, q2.2, Sem.run_pure]

theorem ok_bin {tt : Nat → Option TD} {eqs : Nat → Bool} (hT : TT P tt) (hE : EqOk0 P tt eqs) {op : BinOp} {T T' : Nat} {x y : Operand} {a b : VV} (hx : opv t x = some a) (hy : opv t y = some b) (hu : (evBin tt eqs h T op a b).get = some u) :
    OpOk P (.binOp op T x y T') t h nx u := by
  unfold evBin at hu
  split at hu
  · rename_i k m k' m'
    have fin : ∀ {u : Upd}, (∀ w, ∃ v, (binOp op T (.int k m) (.int k' m')).run P w = .ok v w ∧ v.oneCell' = true ∧ u = { v := some (.val v) }) → OpOk P (.binOp op T x y T') t h nx u := by
      intro u hr
      obtain ⟨v0, _, hv1, rfl⟩ := hr default
      refine opOk_val fun o ho E a' hA => ?_
      obtain ⟨e1, _⟩ := opv_in hA (by simp [Op.operands]) hx
      obtain ⟨e2, _⟩ := opv_in hA (by simp [Op.operands]) hy
      obtain ⟨v, hv, hv1, hv2⟩ := hr E.w
      injection hv2 with hv2
      injection hv2 with hv2
      injection hv2 with hv2
      injection hv2 with hv2
      injection hv2 with hv2
      injection hv2 with hv2
      subst hv2
      exact ⟨v0, by simp [execOp, ho, e1, e2, eqGuard_at_int, hv], rfl, hv1⟩
    split at hu
    · exact fin fun w => run_evShift hu
    · exact fin fun w => run_evShift hu
    · cases hk : (k == k') with
      | false => simp [hk, Stp.get] at hu
      | true =>
        simp only [hk, cond_true] at hu
        obtain rfl : k = k' := by simpa using hk
        exact fin fun w => run_evInt hu
  · rename_i s s'
    obtain ⟨v0, _, hv1, rfl⟩ := run_evStr (P := P) (T := T) (w := default) hu
    refine opOk_val fun o ho E a' hA => ?_
    obtain ⟨e1, _⟩ := opv_in hA (by simp [Op.operands]) hx
    obtain ⟨e2, _⟩ := opv_in hA (by simp [Op.operands]) hy
    obtain ⟨v, hv, hv1, hv2⟩ := run_evStr (P := P) (T := T) (w := E.w) hu
    injection hv2 with hv2
    injection hv2 with hv2
    injection hv2 with hv2
    injection hv2 with hv2
    injection hv2 with hv2
    injection hv2 with hv2
    subst hv2
    exact ⟨v0, by simp [execOp, ho, e1, e2, eqGuard_at_string, hv], rfl, hv1⟩
  · split at hu
    · obtain ⟨⟨b', r⟩, he, hu⟩ := Stp.of_get hu
      simp only [Stp.get, Option.some.injEq] at hu
      subst hu
      refine opOk_val fun o ho E a' hA => ?_
      have q := evEq_ok hT hE he hA.rd (opv_in hA (by simp [Op.operands]) hx) (opv_in hA (by simp [Op.operands]) hy) x y
      refine ⟨.bool b', ?_, rfl, rfl⟩
      simp only [execOp, ho]
      rw [Sem.run_bind, q.1]
      rfl
    · obtain ⟨⟨b', r⟩, he, hu⟩ := Stp.of_get hu
      simp only [Stp.get, Option.some.injEq] at hu
      subst hu
      refine opOk_val fun o ho E a' hA => ?_
      have q := evEq_ok hT hE he hA.rd (opv_in hA (by simp [Op.operands]) hx) (opv_in hA (by simp [Op.operands]) hy) x y
      refine ⟨.bool !b', ?_, rfl, rfl⟩
      simp only [execOp, ho]
      rw [Sem.run_bind, q.2]
      rfl
    · simp [Stp.get] at hu
end
end Go.Ve

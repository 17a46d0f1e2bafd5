/- The evaluator ("VE"): the tables' checks: types, comparisons. -/
import Derived.Test.YtijabmpcicddbaaVe20
import Derived.Laws.StructEq
import Derived.ChangeKeysEq
set_option linter.unusedVariables false
set_option linter.unusedSimpArgs false
namespace Go.Ve

/-! ### types -/
def strB (P : Program) : List (Nat × Nat) → List Field → Bool
  | [], [] => true
  | p :: r, f :: l => Nat.beq p.1 f.offset && Nat.beq p.2 (P.cellsOf f.type) && (P.info? f.type).isSome && strB P r l
  | _, _ => false
def kindB (P : Program) : TK → TypeDesc → Bool
  | .int k, .int k' => k == k'
  | .bool, .bool => true
  | .str, .string => true
  | .arr n e, .array n' e' => Nat.beq n n' && Nat.beq e e'
  | .slc e, .slice e' => Nat.beq e e'
  | .ptr e, .pointer e' => Nat.beq e e'
  | .map a b, .map a' b' => Nat.beq a a' && Nat.beq b b'
  | .strct fs, .struct gs => strB P fs gs.toList
  | .oth, d => match d with | .struct _ | .array _ _ => false | _ => true
  | _, _ => false
def zeroEq : Value → Value → Bool
  | .int k n, .int k' n' => k == k' && n == n'
  | .bool a, .bool b => a == b
  | .string a, .string b => Nat.beq a.size 0 && Nat.beq b.size 0
  | .slice none n c, .slice none n' c' => Nat.beq n n' && Nat.beq c c'
  | .pointer none, .pointer none => true
  | .map none, .map none => true
  | .nilFunc, .nilFunc => true
  | .nilIface, .nilIface => true
  | _, _ => false
def zerosEq : List Value → List Value → Bool
  | [], [] => true
  | a :: l, b :: r => zeroEq a b && zerosEq l r
  | _, _ => false
def tdB (P : Program) (t : Nat) (td : TD) : Bool :=
  match P.underlying t, P.info? t with
  | some d, some i => kindB P td.k d && Nat.beq i.size td.size && Nat.beq i.bytes td.bytes && (match i.zero with | some z => zerosEq z.cells.toList td.zero && (zAgg z == isAgg td.k) | none => false) && Nat.beq td.zero.length td.size
  | _, _ => false
def tdsB (P : Program) : Nat → List (Option TD) → Bool
  | _, [] => true
  | i, none :: r => tdsB P (i + 1) r
  | i, some td :: r => tdB P i td && tdsB P (i + 1) r

theorem zeroEq_spec : ∀ {a b : Value}, zeroEq a b = true → a = b ∧ b.oneCell' = true := by
  intro a b h
  unfold zeroEq at h
  split at h <;> first | (cases h; done) | skip
  · simp only [Bool.and_eq_true, beq_iff_eq] at h; obtain ⟨rfl, rfl⟩ := h; exact ⟨rfl, rfl⟩
  · simp only [beq_iff_eq] at h; subst h; exact ⟨rfl, rfl⟩
  · rename_i x y
    simp only [Bool.and_eq_true] at h
    have h1 := Nat.eq_of_beq_eq_true h.1
    have h2 := Nat.eq_of_beq_eq_true h.2
    obtain ⟨⟨x⟩⟩ := x
    obtain ⟨⟨y⟩⟩ := y
    have e1 : x = [] := List.eq_nil_of_length_eq_zero h1
    have e2 : y = [] := List.eq_nil_of_length_eq_zero h2
    subst e1
    subst e2
    exact ⟨rfl, rfl⟩
  · simp only [Bool.and_eq_true] at h
    have h1 := Nat.eq_of_beq_eq_true h.1
    have h2 := Nat.eq_of_beq_eq_true h.2
    subst h1
    subst h2
    exact ⟨rfl, rfl⟩
  all_goals exact ⟨rfl, rfl⟩
theorem zerosEq_spec : ∀ {l r : List Value}, zerosEq l r = true → l = r ∧ ∀ v, v ∈ r → v.oneCell' = true
  | [], [], _ => ⟨rfl, fun v hv => by simp at hv⟩
  | [], _ :: _, h => by cases h
  | _ :: _, [], h => by cases h
  | a :: l, b :: r, h => by
    simp only [zerosEq, Bool.and_eq_true] at h
    obtain ⟨rfl, h1⟩ := zeroEq_spec h.1
    obtain ⟨rfl, h2⟩ := zerosEq_spec h.2
    refine ⟨rfl, fun v hv => ?_⟩
    rcases List.mem_cons.1 hv with rfl | hv
    · exact h1
    · exact h2 v hv
theorem strB_spec {P : Program} : ∀ {fs : List (Nat × Nat)} {gs : List Field}, strB P fs gs = true → fs.length = gs.length ∧ ∀ (i : Nat) (f : Field), gs[i]? = some f → fs[i]? = some (f.offset, P.cellsOf f.type) ∧ (P.info? f.type).isSome = true
  | [], [], _ => ⟨rfl, fun i f h => by simp at h⟩
  | [], _ :: _, h => by cases h
  | _ :: _, [], h => by cases h
  | p :: r, g :: l, h => by
    simp only [strB, Bool.and_eq_true] at h
    obtain ⟨⟨⟨h1, h2⟩, h3⟩, h4⟩ := h
    obtain ⟨k1, k2⟩ := strB_spec h4
    refine ⟨by simp [k1], fun i f hf => ?_⟩
    cases i with
    | zero =>
      simp at hf
      subst hf
      obtain ⟨a, b⟩ := p
      exact ⟨by simp; exact ⟨Nat.eq_of_beq_eq_true h1, Nat.eq_of_beq_eq_true h2⟩, h3⟩
    | succ i => simpa using k2 i f (by simpa using hf)
theorem kindB_spec {P : Program} {k : TK} {d : TypeDesc} (h : kindB P k d = true) : kindOk P k d := by
  cases k <;> cases d <;> first
    | exact True.intro
    | exact absurd h Bool.false_ne_true
    | exact eq_of_beq h
    | exact Nat.eq_of_beq_eq_true h
    | (have h' := h; simp only [kindB, Bool.and_eq_true] at h'; exact ⟨Nat.eq_of_beq_eq_true h'.1, Nat.eq_of_beq_eq_true h'.2⟩)
    | (obtain ⟨h1, h2⟩ := strB_spec h; exact ⟨by simpa using h1, fun i f hf => h2 i f (by simpa using hf)⟩)
def aggD : TypeDesc → Bool
  | .struct _ | .array _ _ => true
  | _ => false
theorem kind_agg {P : Program} {k : TK} {d : TypeDesc} (h : kindOk P k d) : isAgg k = aggD d := by
  cases k <;> cases d <;> first | rfl | exact h.elim
theorem tdB_spec {P : Program} {t : Nat} {td : TD} (h : tdB P t td = true) : TdOk P t td := by
  unfold tdB at h
  split at h
  · rename_i d i hd hi
    simp only [Bool.and_eq_true] at h
    obtain ⟨⟨⟨⟨h1, h2⟩, h3⟩, h4⟩, h5⟩ := h
    split at h4
    · rename_i z hz
      simp only [Bool.and_eq_true, beq_iff_eq] at h4
      obtain ⟨e1, e2⟩ := zerosEq_spec h4.1
      refine ⟨⟨d, hd, kindB_spec h1⟩, ⟨i, z, hi, Nat.eq_of_beq_eq_true h2, Nat.eq_of_beq_eq_true h3, hz, e1⟩, Nat.eq_of_beq_eq_true h5, e2, fun i' z' hi' hz' => ?_⟩
      rw [hi] at hi'
      injection hi' with hi'
      subst hi'
      rw [hz] at hz'
      injection hz' with hz'
      subst hz'
      exact h4.2
    · cases h4
  · cases h
theorem tdsB_spec {P : Program} : ∀ {l : List (Option TD)} {i : Nat}, tdsB P i l = true → ∀ (t : Nat) (td : TD), (l[t]?).bind _root_.id = some td → TdOk P (i + t) td
  | [], i, _, t, td, h => by simp at h
  | none :: r, i, hb, t, td, h => by
    cases t with
    | zero => simp at h
    | succ t => rw [show i + (t + 1) = i + 1 + t by omega]; exact tdsB_spec (l := r) hb t td (by simpa using h)
  | some x :: r, i, hb, t, td, h => by
    simp only [tdsB, Bool.and_eq_true] at hb
    cases t with
    | zero => simp at h; subst h; exact tdB_spec hb.1
    | succ t => rw [show i + (t + 1) = i + 1 + t by omega]; exact tdsB_spec hb.2 t td (by simpa using h)
theorem tt_ok {P : Program} {l : List (Option TD)} (h : tdsB P 0 l = true) : TT P (fun t => (l[t]?).bind _root_.id) := fun t td ht => by
  have := tdsB_spec h t td ht
  rwa [Nat.zero_add] at this

/-! ### names -/
def namesB (l : List Func) : Bool := l.all fun fn => !(fn.name == "runtime.NumGoroutine")
theorem names_ok {P : Program} (h : namesB P.funcs.toList = true) : ∀ (f : Nat) (fn : Func), P.funcs[f]? = some fn → (fn.name == "runtime.NumGoroutine") = false := by
  intro f fn hf
  have := List.all_eq_true.1 h fn (by rw [Array.mem_toList_iff]; exact Array.mem_of_getElem? hf)
  simpa using this

/-! ### comparisons -/
def repL (m : Nat) (l : List Value) : List Value := match m with | 0 => [] | m + 1 => l ++ repL m l
/-- the zeros of a type that is compared cell by cell -/
def zs (P : Program) : Nat → Nat → List Value
  | 0, _ => []
  | n + 1, t => match P.underlying t with
    | some .bool => [.bool false]
    | some (.int k) => [.int k 0]
    | some .string => [.string ⟨#[]⟩]
    | some (.struct gs) => gs.toList.flatMap fun f => zs P n f.type
    | some (.array m e) => repL m (zs P n e)
    | _ => []
def eqB (P : Program) (tt : Nat → Option TD) : Nat → Nat → Bool
  | 0, _ => false
  | n + 1, t => match tt t with
    | none => false
    | some td => match P.underlying t with
      | some .bool | some (.int _) | some .string => Nat.beq td.size 1
      | some (.struct gs) => !P.stoodInHeld t && contB P 0 td.size gs.toList && gs.toList.all fun f => !(f.name == "_") && (tt f.type).isSome && eqB P tt n f.type && Nat.beq (zs P n f.type).length (P.cellsOf f.type)
      | some (.array m e) => (tt e).isSome && eqB P tt n e && Nat.beq (zs P n e).length (P.cellsOf e) && Nat.beq td.size (m * P.cellsOf e)
      | _ => false
def eqTop (P : Program) (tt : Nat → Option TD) (n t : Nat) : Bool := eqB P tt n t && !P.eqGuardType P.depth t && (match tt t with | some td => isAgg td.k && zerosEq td.zero (zs P n t) | none => false)

theorem eqCells_cons {z : Value} {zl : List Value} {l r : List CV} {b : Bool} (h : eqCells (z :: zl) l r = some b) : ∃ x l' y r' a c, l = x :: l' ∧ r = y :: r' ∧ eqCell z x y = some a ∧ eqCells zl l' r' = some c ∧ b = (a && c) := by
  unfold eqCells at h
  split at h
  · cases ‹_ :: _ = []›
  · rename_i z' x y e
    injection e with e1 e2
    subst e1
    subst e2
    exact ⟨x, [], y, [], b, true, rfl, rfl, h, rfl, by simp⟩
  · rename_i z' zs' x l' y r' _ e
    injection e with e1 e2
    subst e1
    subst e2
    split at h
    · rename_i a c h1 h2
      injection h with h
      exact ⟨x, l', y, r', a, c, rfl, rfl, h1, h2, h.symm⟩
    · cases h
  · cases h
theorem eqCells_append : ∀ {z1 z2 : List Value} {l r : List CV} {b : Bool}, eqCells (z1 ++ z2) l r = some b → ∃ b1 b2, eqCells z1 (l.take z1.length) (r.take z1.length) = some b1 ∧ eqCells z2 (l.drop z1.length) (r.drop z1.length) = some b2 ∧ b = (b1 && b2) ∧ z1.length ≤ l.length ∧ z1.length ≤ r.length
  | [], z2, l, r, b, h => ⟨true, b, rfl, h, by simp, by simp, by simp⟩
  | z :: z1, z2, l, r, b, h => by
    obtain ⟨x, l', y, r', a, c, rfl, rfl, h1, h2, rfl⟩ := eqCells_cons (zl := z1 ++ z2) h
    obtain ⟨b1, b2, k1, k2, rfl, k3, k4⟩ := eqCells_append h2
    refine ⟨a && b1, b2, ?_, by simpa using k2, by simp [Bool.and_assoc], by simpa using k3, by simpa using k4⟩
    simp only [List.length_cons, List.take_succ_cons]
    cases z1 with
    | nil =>
      have e : b1 = true := by
        simp only [List.length_nil, List.take_zero] at k1
        exact (Option.some.inj k1).symm
      subst e
      simp only [List.length_nil, List.take_zero, Bool.and_true]
      exact h1
    | cons z3 z1 =>
      obtain ⟨x3, l3, y3, r3, a3, c3, e1, e2, _⟩ := eqCells_cons k1
      rw [e1, e2] at k1 ⊢
      simp only [eqCells, h1]
      rw [k1]

section
variable {P : Program} {tt : Nat → Option TD} (hT : TT P tt) {E : Env}
include hT

theorem pack_eqB {n t : Nat} {td : TD} (htd : tt t = some td) (heq : eqB P tt n t = true) {q : List CV} (hq : q.length = td.size) : ∃ v, pack td.k q = some v := by
  have ht := hT t td htd
  unfold pack
  cases hag : isAgg td.k with
  | true => exact ⟨_, rfl⟩
  | false =>
    simp only [cond_false]
    have h1 : td.size = 1 := by
      cases n with
      | zero => cases heq
      | succ n =>
        simp only [eqB, htd] at heq
        obtain ⟨d', hd', hkd⟩ := ht.und
        rw [hd'] at heq
        have hka := kind_agg hkd
        rw [hag] at hka
        cases d' <;> first | exact Nat.eq_of_beq_eq_true heq | exact absurd hka Bool.false_ne_true | exact absurd heq Bool.false_ne_true
    obtain ⟨x, rfl⟩ := List.length_eq_one_iff.1 (hq.trans h1)
    exact ⟨_, rfl⟩
theorem items_eq {n d e : Nat} {td : TD} (htd : tt e = some td) (heq : eqB P tt n e = true) (hlen : (zs P n e).length = P.cellsOf e) (ih : ∀ (t : Nat) (td : TD) (l r : List CV) (v1 v2 : VV) (y1 y2 : Value) (b : Bool), tt t = some td → eqB P tt n t = true → eqCells (zs P n t) l r = some b → pack td.k l = some v1 → pack td.k r = some v2 → RV E v1 y1 → RV E v2 y2 → (Op.equalIn (d + n) t y1 y2).run P E.w = .ok b E.w)
    {xs ys : Array Value} {l r : List CV} (hl : RL (RC E) l xs.toList) (hr : RL (RC E) r ys.toList) :
    ∀ (m i : Nat) (b : Bool), eqCells (repL m (zs P n e)) (l.drop (i * P.cellsOf e)) (r.drop (i * P.cellsOf e)) = some b → (Op.eqItems (d + n) e (P.cellsOf e) xs ys (List.range' i m)).run P E.w = .ok b E.w
  | 0, i, b, h => by
    unfold repL eqCells at h
    split at h <;> first | contradiction | skip
    injection h with h
    subst h
    rfl
  | m + 1, i, b, h => by
    have ht := hT e td htd
    rw [repL] at h
    obtain ⟨b1, b2, k1, k2, rfl, k3, k4⟩ := eqCells_append h
    rw [hlen] at k1 k2 k3 k4
    rw [List.drop_drop, List.drop_drop, show i * P.cellsOf e + P.cellsOf e = (i + 1) * P.cellsOf e by rw [Nat.add_mul, Nat.one_mul]] at k2
    have hcut : ∀ q : List CV, P.cellsOf e ≤ (q.drop (i * P.cellsOf e)).length → cut q (i * P.cellsOf e) td.size = some ((q.drop (i * P.cellsOf e)).take (P.cellsOf e)) := by
      intro q hq
      unfold cut
      rw [← ht.cellsOf]
      have : ((q.drop (i * P.cellsOf e)).take (P.cellsOf e)).length = P.cellsOf e := by rw [List.length_take]; omega
      simp only [this, Nat.beq_refl, cond_true]
    obtain ⟨v1, hv1⟩ := pack_eqB hT htd heq (q := (l.drop (i * P.cellsOf e)).take (P.cellsOf e)) (by rw [← ht.cellsOf, List.length_take]; omega)
    obtain ⟨v2, hv2⟩ := pack_eqB hT htd heq (q := (r.drop (i * P.cellsOf e)).take (P.cellsOf e)) (by rw [← ht.cellsOf, List.length_take]; omega)
    obtain ⟨y1, p1, q1⟩ := run_part_rel (P := P) ht hl (hcut l k3) hv1
    obtain ⟨y2, p2, q2⟩ := run_part_rel (P := P) ht hr (hcut r k4) hv2
    have e1 := ih e td _ _ v1 v2 y1 y2 b1 htd heq k1 hv1 hv2 q1 q2
    have hrec := items_eq htd heq hlen ih hl hr m (i + 1) b2 k2
    rw [List.range'_succ]
    simp only [Op.eqItems, Sem.run_bind, p1, p2, Result.andThen_ok, e1]
    cases b1 with
    | true => simpa using hrec
    | false => simp
theorem fields_eq {n d : Nat} (ih : ∀ (t : Nat) (td : TD) (l r : List CV) (v1 v2 : VV) (y1 y2 : Value) (b : Bool), tt t = some td → eqB P tt n t = true → eqCells (zs P n t) l r = some b → pack td.k l = some v1 → pack td.k r = some v2 → RV E v1 y1 → RV E v2 y2 → (Op.equalIn (d + n) t y1 y2).run P E.w = .ok b E.w)
    {xs ys : Array Value} {l r : List CV} (hl : RL (RC E) l xs.toList) (hr : RL (RC E) r ys.toList) {tot : Nat} :
    ∀ {gs : List Field} {off : Nat} {b : Bool}, contB P off tot gs = true → (gs.all fun f => !(f.name == "_") && (tt f.type).isSome && eqB P tt n f.type && Nat.beq (zs P n f.type).length (P.cellsOf f.type)) = true →
      eqCells (gs.flatMap fun f => zs P n f.type) (l.drop off) (r.drop off) = some b → (Op.eqFields (d + n) xs ys gs).run P E.w = .ok b E.w
  | [], off, b, _, _, h => by
    simp only [List.flatMap_nil] at h
    unfold eqCells at h
    split at h <;> first | contradiction | skip
    injection h with h
    subst h
    rfl
  | f :: gs, off, b, hc, ha, h => by
    simp only [contB, Bool.and_eq_true] at hc
    simp only [List.all_cons, Bool.and_eq_true, Bool.not_eq_true'] at ha
    obtain ⟨⟨⟨⟨hname, hsome⟩, heq⟩, hlen⟩, hrest⟩ := ha
    have ho := Nat.eq_of_beq_eq_true hc.1
    have hlen := Nat.eq_of_beq_eq_true hlen
    obtain ⟨td, htd⟩ := Option.isSome_iff_exists.1 hsome
    have ht := hT f.type td htd
    rw [List.flatMap_cons] at h
    obtain ⟨b1, b2, k1, k2, rfl, k3, k4⟩ := eqCells_append h
    rw [hlen, ht.cellsOf] at k1 k2 k3 k4
    rw [List.drop_drop, List.drop_drop] at k2
    have hcut : ∀ q : List CV, td.size ≤ (q.drop off).length → cut q off td.size = some ((q.drop off).take td.size) := by
      intro q hq
      unfold cut
      have : ((q.drop off).take td.size).length = td.size := by rw [List.length_take]; omega
      simp only [this, Nat.beq_refl, cond_true]
    have hpack : ∀ q : List CV, q.length = td.size → ∃ v, pack td.k q = some v := by
      intro q hq
      unfold pack
      cases hag : isAgg td.k with
      | true => exact ⟨_, rfl⟩
      | false =>
        simp only [cond_false]
        have h1 : td.size = 1 := by
          cases n with
          | zero => cases heq
          | succ n =>
            simp only [eqB, htd] at heq
            obtain ⟨d', hd', hkd⟩ := ht.und
            rw [hd'] at heq
            have hka := kind_agg hkd
            rw [hag] at hka
            cases d' <;> first | exact Nat.eq_of_beq_eq_true heq | exact absurd hka Bool.false_ne_true | exact absurd heq Bool.false_ne_true
        obtain ⟨x, rfl⟩ := List.length_eq_one_iff.1 (hq.trans h1)
        exact ⟨_, rfl⟩
    obtain ⟨v1, hv1⟩ := hpack ((l.drop off).take td.size) (by rw [List.length_take]; omega)
    obtain ⟨v2, hv2⟩ := hpack ((r.drop off).take td.size) (by rw [List.length_take]; omega)
    obtain ⟨y1, p1, q1⟩ := run_part_rel (P := P) ht hl (hcut l k3) hv1
    obtain ⟨y2, p2, q2⟩ := run_part_rel (P := P) ht hr (hcut r k4) hv2
    have e := ih f.type td _ _ v1 v2 y1 y2 b1 htd heq k1 hv1 hv2 q1 q2
    have hn : f.name ≠ "_" := by simpa using hname
    have hrec := fields_eq ih hl hr (b := b2) hc.2 hrest (by rw [ht.cellsOf]; exact k2)
    simp only [Op.eqFields, hn, ne_eq, not_false_eq_true, if_true, ho, Sem.run_bind, p1, p2, Result.andThen_ok, e]
    cases b1 with
    | true => simpa using hrec
    | false => simp
theorem eq_rel : ∀ (n d : Nat) (t : Nat) (td : TD) (l r : List CV) (v1 v2 : VV) (y1 y2 : Value) (b : Bool), tt t = some td → eqB P tt n t = true → eqCells (zs P n t) l r = some b → pack td.k l = some v1 → pack td.k r = some v2 → RV E v1 y1 → RV E v2 y2 →
    (Op.equalIn (d + n) t y1 y2).run P E.w = .ok b E.w
  | 0, d, t, td, l, r, v1, v2, y1, y2, b, htd, he, _, _, _, _, _ => by cases he
  | n + 1, d, t, td, l, r, v1, v2, y1, y2, b, htd, he, hc, hp1, hp2, hr1, hr2 => by
    have ht := hT t td htd
    obtain ⟨dd, hd, hkd⟩ := ht.und
    simp only [eqB, htd, hd] at he
    simp only [zs, hd] at hc
    have leaf : ∀ z, eqCells [z] l r = some b → ∃ x y, l = [x] ∧ r = [y] ∧ eqCell z x y = some b := by
      intro z h
      obtain ⟨x, l', y, r', a, c, rfl, rfl, h1, h2, rfl⟩ := eqCells_cons h
      unfold eqCells at h2
      split at h2 <;> first | contradiction | skip
      injection h2 with h2
      subst h2
      exact ⟨x, y, rfl, rfl, by simpa using h1⟩
    have unp : ∀ {k : TK} {x : CV} {v : VV}, isAgg k = false → pack k [x] = some v → v = .c x := by
      intro k x v hk hp
      unfold pack at hp
      rw [hk] at hp
      simp at hp
      exact hp.symm
    have hka := kind_agg hkd
    cases dd with
    | bool =>
      obtain ⟨x, y, rfl, rfl, hxy⟩ := leaf _ hc
      have hag : isAgg td.k = false := hka
      rw [unp hag hp1] at hr1
      rw [unp hag hp2] at hr2
      unfold eqCell at hxy
      split at hxy <;> first | contradiction | skip
      all_goals first | (have hne := ‹Value.bool false = _›; cases hne; done) | skip
      obtain ⟨rfl, _⟩ := hr1
      obtain ⟨rfl, _⟩ := hr2
      injection hxy with hxy
      subst hxy
      exact run_equalIn_bool _ _ _ _ _ hd
    | int k =>
      obtain ⟨x, y, rfl, rfl, hxy⟩ := leaf _ hc
      have hag : isAgg td.k = false := hka
      rw [unp hag hp1] at hr1
      rw [unp hag hp2] at hr2
      unfold eqCell at hxy
      split at hxy <;> first | contradiction | skip
      all_goals first | (have hne := ‹Value.int k 0 = _›; cases hne; done) | skip
      obtain ⟨hk, hxy⟩ := cond_some hxy
      simp only [Bool.and_eq_true, beq_iff_eq] at hk
      obtain ⟨rfl, _⟩ := hr1
      obtain ⟨rfl, _⟩ := hr2
      injection hxy with hxy
      subst hxy
      rw [hk.2]
      exact run_equalIn_int _ _ _ _ _ _ _ hd
    | string =>
      obtain ⟨x, y, rfl, rfl, hxy⟩ := leaf _ hc
      have hag : isAgg td.k = false := hka
      rw [unp hag hp1] at hr1
      rw [unp hag hp2] at hr2
      unfold eqCell at hxy
      split at hxy <;> first | contradiction | skip
      all_goals first | (have hne := ‹Value.string ⟨#[]⟩ = _›; cases hne; done) | skip
      obtain ⟨rfl, _⟩ := hr1
      obtain ⟨rfl, _⟩ := hr2
      injection hxy with hxy
      subst hxy
      exact run_equalIn_string _ _ _ _ _ hd
    | struct gs =>
      simp only [Bool.and_eq_true, Bool.not_eq_true'] at he
      obtain ⟨⟨h1, h2⟩, h3⟩ := he
      have hag : isAgg td.k = true := hka
      unfold pack at hp1 hp2
      rw [hag] at hp1 hp2
      simp only [cond_true, Option.some.injEq] at hp1 hp2
      subst hp1
      subst hp2
      obtain ⟨xs, rfl, hl⟩ := hr1
      obtain ⟨ys, rfl, hr⟩ := hr2
      have hfo : P.fieldsOf t = gs := by simp [Program.fieldsOf, hd]
      rw [show d + (n + 1) = (d + n) + 1 by omega, run_equalIn_struct E.w (d + n) t xs ys (by rw [hfo]; exact hd) h1, hfo]
      exact fields_eq hT (fun t td l r v1 v2 y1 y2 b => eq_rel n d t td l r v1 v2 y1 y2 b) hl hr (off := 0) h2 h3 (by simpa using hc)
    | array m e =>
      simp only [Bool.and_eq_true] at he
      obtain ⟨⟨⟨h1, h2⟩, h3⟩, h4⟩ := he
      obtain ⟨te, hte⟩ := Option.isSome_iff_exists.1 h1
      obtain ⟨i, _, hi, _⟩ := (hT e te hte).inf
      have hag : isAgg td.k = true := hka
      unfold pack at hp1 hp2
      rw [hag] at hp1 hp2
      simp only [cond_true, Option.some.injEq] at hp1 hp2
      subst hp1
      subst hp2
      obtain ⟨xs, rfl, hl⟩ := hr1
      obtain ⟨ys, rfl, hr⟩ := hr2
      rw [show d + (n + 1) = (d + n) + 1 by omega, run_equalIn_array E.w (d + n) xs ys hd hi, List.range_eq_range']
      exact items_eq hT hte h2 (Nat.eq_of_beq_eq_true h3) (fun t td l r v1 v2 y1 y2 b => eq_rel n d t td l r v1 v2 y1 y2 b) hl hr m 0 b (by simpa using hc)
    | _ => cases he
theorem fields_check {n d : Nat} {em : Bool} (ih : ∀ (t : Nat) (td : TD) (l : List CV) (v : VV) (y : Value), tt t = some td → eqB P tt n t = true → l.length = td.size → pack td.k l = some v → RV E v y → (Instr.checkKey em (d + n) t y).run P E.w = .ok () E.w)
    {xs : Array Value} {l : List CV} (hl : RL (RC E) l xs.toList) : ∀ {gs : List Field} {off : Nat}, contB P off l.length gs = true → (gs.all fun f => !(f.name == "_") && (tt f.type).isSome && eqB P tt n f.type && Nat.beq (zs P n f.type).length (P.cellsOf f.type)) = true →
      (do for f in gs do if f.name ≠ "_" then Instr.checkKey em (d + n) f.type (← part f.type xs f.offset) : Sem Unit).run P E.w = .ok () E.w
  | [], off, _, _ => by simp
  | f :: gs, off, hc, ha => by
    simp only [contB, Bool.and_eq_true] at hc
    simp only [List.all_cons, Bool.and_eq_true, Bool.not_eq_true'] at ha
    obtain ⟨⟨⟨⟨hname, hsome⟩, heq⟩, hlen⟩, hrest⟩ := ha
    have ho := Nat.eq_of_beq_eq_true hc.1
    obtain ⟨td, htd⟩ := Option.isSome_iff_exists.1 hsome
    have ht := hT f.type td htd
    have hle : off + td.size ≤ l.length := by
      have := (contB_le hc.2).1
      rw [ht.cellsOf] at this
      exact this
    have hq : ((l.drop off).take td.size).length = td.size := by rw [List.length_take, List.length_drop]; omega
    have hcut : cut l off td.size = some ((l.drop off).take td.size) := by
      unfold cut
      simp only [hq, Nat.beq_refl, cond_true]
    have hpack : ∃ v, pack td.k ((l.drop off).take td.size) = some v := by
      unfold pack
      cases hag : isAgg td.k with
      | true => exact ⟨_, rfl⟩
      | false =>
        simp only [cond_false]
        have h1 : td.size = 1 := by
          cases n with
          | zero => cases heq
          | succ n =>
            simp only [eqB, htd] at heq
            obtain ⟨d', hd', hkd⟩ := ht.und
            rw [hd'] at heq
            have hka := kind_agg hkd
            rw [hag] at hka
            cases d' <;> first | exact Nat.eq_of_beq_eq_true heq | exact absurd hka Bool.false_ne_true | exact absurd heq Bool.false_ne_true
        obtain ⟨x, hx⟩ := List.length_eq_one_iff.1 (hq.trans h1)
        rw [hx]
        exact ⟨_, rfl⟩
    obtain ⟨v, hv⟩ := hpack
    obtain ⟨y, p1, q1⟩ := run_part_rel (P := P) ht hl hcut hv
    have p2 := ih f.type td _ v y htd heq hq hv q1
    have hn : f.name ≠ "_" := by simpa using hname
    have hrec := fields_check ih hl hc.2 hrest
    simp only [Sem.run_bind, Sem.run_pure] at hrec
    simp only [List.forIn_cons, Sem.run_bind, hn, ne_eq, not_false_eq_true, if_true, ho, p1, p2, Result.andThen_ok, Sem.run_pure]
    exact hrec
theorem items_check {n d e : Nat} {em : Bool} {td : TD} (htd : tt e = some td) (heq : eqB P tt n e = true) (ih : ∀ (t : Nat) (td : TD) (l : List CV) (v : VV) (y : Value), tt t = some td → eqB P tt n t = true → l.length = td.size → pack td.k l = some v → RV E v y → (Instr.checkKey em (d + n) t y).run P E.w = .ok () E.w)
    {xs : Array Value} {l : List CV} (hl : RL (RC E) l xs.toList) : ∀ (m i : Nat), (i + m) * P.cellsOf e ≤ l.length →
      (do for i in List.range' i m do Instr.checkKey em (d + n) e (← part e xs (i * (← Go.sizeOf e))) : Sem Unit).run P E.w = .ok () E.w
  | 0, i, _ => by simp
  | m + 1, i, hle => by
    have ht := hT e td htd
    obtain ⟨inf, _, hi, _⟩ := ht.inf
    have hz := ht.cellsOf
    have hle1 : i * P.cellsOf e + P.cellsOf e ≤ l.length := Nat.le_trans (by rw [show i + (m + 1) = (i + 1) + m by omega, Nat.add_mul, Nat.add_mul, Nat.one_mul]; exact Nat.le_add_right _ _) hle
    have hq : ((l.drop (i * P.cellsOf e)).take td.size).length = td.size := by rw [← hz, List.length_take, List.length_drop]; omega
    have hcut : cut l (i * P.cellsOf e) td.size = some ((l.drop (i * P.cellsOf e)).take td.size) := by
      unfold cut
      simp only [hq, Nat.beq_refl, cond_true]
    obtain ⟨v, hv⟩ := pack_eqB hT htd heq hq
    obtain ⟨y, p1, q1⟩ := run_part_rel (P := P) ht hl hcut hv
    have p2 := ih e td _ v y htd heq hq hv q1
    have hrec := items_check htd heq ih hl m (i + 1) (by rw [show i + 1 + m = i + (m + 1) by omega]; exact hle)
    rw [List.range'_succ]
    simp only [Sem.run_bind, Sem.run_pure] at hrec
    simp only [List.forIn_cons, Sem.run_bind, run_sizeOf E.w hi, p1, p2, Result.andThen_ok, Sem.run_pure]
    exact hrec
theorem check_rel {em : Bool} : ∀ (n d : Nat) (t : Nat) (td : TD) (l : List CV) (v : VV) (y : Value), tt t = some td → eqB P tt n t = true → l.length = td.size → pack td.k l = some v → RV E v y →
    (Instr.checkKey em (d + n) t y).run P E.w = .ok () E.w
  | 0, d, t, td, l, v, y, htd, he, _, _, _ => by cases he
  | n + 1, d, t, td, l, v, y, htd, he, hlen, hp, hr => by
    have ht := hT t td htd
    obtain ⟨dd, hd, hkd⟩ := ht.und
    simp only [eqB, htd, hd] at he
    have hka := kind_agg hkd
    rw [show d + (n + 1) = (d + n) + 1 by omega]
    cases dd with
    | bool => simp [Instr.checkKey, Go.run_underlying hd]
    | int k => simp [Instr.checkKey, Go.run_underlying hd]
    | string => simp [Instr.checkKey, Go.run_underlying hd]
    | struct gs =>
      simp only [Bool.and_eq_true, Bool.not_eq_true'] at he
      obtain ⟨⟨h1, h2⟩, h3⟩ := he
      have hag : isAgg td.k = true := hka
      unfold pack at hp
      rw [hag] at hp
      simp only [cond_true, Option.some.injEq] at hp
      subst hp
      obtain ⟨xs, rfl, hl⟩ := hr
      rw [Instr.checkKey]
      simp only [Sem.run_bind, Go.run_underlying hd, Result.andThen_ok]
      rw [← Array.forIn_toList]
      rw [← hlen] at h2
      have := fields_check hT (em := em) (fun t td l v y => check_rel n d t td l v y) hl h2 h3
      simp only [Sem.run_bind, Sem.run_pure] at this
      exact this
    | array m e =>
      simp only [Bool.and_eq_true] at he
      obtain ⟨⟨⟨h1, h2⟩, h3⟩, h4⟩ := he
      obtain ⟨te, hte⟩ := Option.isSome_iff_exists.1 h1
      have hag : isAgg td.k = true := hka
      unfold pack at hp
      rw [hag] at hp
      simp only [cond_true, Option.some.injEq] at hp
      subst hp
      obtain ⟨xs, rfl, hl⟩ := hr
      have := items_check hT (em := em) hte h2 (fun t td l v y => check_rel n d t td l v y) hl m 0 (by rw [Nat.zero_add, hlen, Nat.eq_of_beq_eq_true h4]; exact Nat.le_refl _)
      rw [Instr.checkKey]
      simp only [Sem.run_bind, Go.run_underlying hd, Result.andThen_ok]
      simp only [Std.Legacy.Range.forIn_eq_forIn_range', Std.Legacy.Range.size, Nat.sub_zero, Nat.add_one_sub_one, Nat.div_one]
      simp only [Sem.run_bind, Sem.run_pure] at this
      exact this
    | _ => cases he
end
theorem keyIs_length : ∀ {z : List Value} {l : List PV}, keyIs z l = true → l.length = z.length
  | [], [], _ => rfl
  | [], _ :: _, h => by simp [keyIs] at h
  | _ :: _, [], h => by simp [keyIs] at h
  | _ :: z, _ :: l, h => by
    simp only [keyIs, Bool.and_eq_true] at h
    simp [keyIs_length h.2]
theorem eq_ok {P : Program} {tt : Nat → Option TD} (hT : TT P tt) {n : Nat} {eqs : Nat → Bool} (h : ∀ t, eqs t = true → eqTop P tt n t = true) (hn : n ≤ 10000) : EqOk P tt eqs := by
  refine ⟨?_, fun T td hT1 htd E l xs em hk hl => ?_⟩
  rotate_left
  · have := h T hT1
    simp only [eqTop, Bool.and_eq_true, htd, Bool.not_eq_true'] at this
    obtain ⟨⟨h1, h2⟩, h3, h4⟩ := this
    have := check_rel hT (E := E) (em := em) n (10000 - n) T td (l.map .pv) (.agg (l.map .pv)) (.agg xs) htd h1 (by rw [List.length_map, keyIs_length hk, (hT T td htd).len]) (by unfold pack; rw [h3]; rfl) ⟨xs, rfl, hl⟩
    rw [show 10000 - n + n = 10000 by omega] at this
    exact this
  intro T td hT1 htd E l r xs ys b hc hl hr op x y
  have := h T hT1
  simp only [eqTop, Bool.and_eq_true, htd, Bool.not_eq_true'] at this
  obtain ⟨⟨h1, h2⟩, h3, h4⟩ := this
  obtain ⟨e, _⟩ := zerosEq_spec h4
  rw [e] at hc
  refine ⟨run_eqGuard_agg E.w op T x y xs ys h2, ?_⟩
  have hp : ∀ q : List CV, pack td.k q = some (.agg q) := fun q => by unfold pack; rw [h3]; rfl
  have := eq_rel hT (E := E) n (10000 - n) T td l r (.agg l) (.agg r) (.agg xs) (.agg ys) b htd h1 hc (hp l) (hp r) ⟨xs, rfl, hl⟩ ⟨ys, rfl, hr⟩
  rw [show 10000 - n + n = 10000 by omega] at this
  exact this
end Go.Ve

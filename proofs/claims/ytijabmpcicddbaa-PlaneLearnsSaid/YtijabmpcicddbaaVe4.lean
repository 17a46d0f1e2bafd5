/- The evaluator ("VE"): the types' table; what is asked of one operation; operations that leave the memory alone. -/
import Derived.Test.YtijabmpcicddbaaVe3
import Derived.WalkLawsBesides
set_option linter.unusedVariables false
set_option linter.unusedSimpArgs false
namespace Go.Ve

def kindOk (P : Program) : TK → TypeDesc → Prop
  | .int k, .int k' => k = k'
  | .bool, .bool => True
  | .str, .string => True
  | .arr n e, .array n' e' => n = n' ∧ e = e'
  | .slc e, .slice e' => e = e'
  | .ptr e, .pointer e' => e = e'
  | .map a b, .map a' b' => a = a' ∧ b = b'
  | .strct fs, .struct gs => fs.length = gs.size ∧ ∀ (i : Nat) (f : Field), gs[i]? = some f → fs[i]? = some (f.offset, P.cellsOf f.type) ∧ (P.info? f.type).isSome = true
  | .oth, d => match d with | .struct _ | .array _ _ => False | _ => True
  | _, _ => False

def zAgg : Value → Bool
  | .agg _ => true
  | _ => false
structure TdOk (P : Program) (t : Nat) (td : TD) : Prop where
  und : ∃ d, P.underlying t = some d ∧ kindOk P td.k d
  inf : ∃ i z, P.info? t = some i ∧ i.size = td.size ∧ i.bytes = td.bytes ∧ i.zero = some z ∧ z.cells.toList = td.zero
  len : td.zero.length = td.size
  one : ∀ v, v ∈ td.zero → v.oneCell' = true
  shp : ∀ i z, P.info? t = some i → i.zero = some z → zAgg z = isAgg td.k
def TT (P : Program) (tt : Nat → Option TD) : Prop := ∀ t td, tt t = some td → TdOk P t td

section
variable {P : Program} {t : Nat} {td : TD} (h : TdOk P t td) (w : World)
include h
theorem TdOk.run_typeInfo : ∃ i z, (typeInfo t).run P w = .ok i w ∧ i.size = td.size ∧ i.bytes = td.bytes ∧ i.zero = some z ∧ z.cells.toList = td.zero := by
  obtain ⟨i, z, hi, h1, h2, h3, h4⟩ := h.inf
  exact ⟨i, z, by simp [typeInfo, hi], h1, h2, h3, h4⟩
theorem TdOk.run_sizeOf : (sizeOf t).run P w = .ok td.size w := by
  obtain ⟨i, z, hi, h1, _⟩ := h.inf
  simp [sizeOf, typeInfo, hi, h1]
theorem TdOk.cellsOf : P.cellsOf t = td.size := by
  obtain ⟨i, z, hi, h1, _⟩ := h.inf
  simp [Program.cellsOf, hi, h1]
theorem TdOk.run_zero : ∃ z, (zeroValue t).run P w = .ok z w ∧ z.cells.toList = td.zero := by
  obtain ⟨i, z, hi, _, _, h3, h4⟩ := h.inf
  exact ⟨z, by simp [zeroValue, typeInfo, hi, h3], h4⟩
theorem zero_agg {z : Value} (hz : (zeroValue t).run P w = .ok z w) : (isAgg td.k = true → ∃ cs, z = .agg cs) ∧ (isAgg td.k = false → z.cells.toList = [z]) := by
  obtain ⟨i, z', hi, _, _, h3, h4⟩ := h.inf
  have : (zeroValue t).run P w = .ok z' w := by simp [zeroValue, typeInfo, hi, h3]
  rw [this] at hz
  injection hz with hz
  subst hz
  have hs := h.shp i z' hi h3
  refine ⟨fun ha => ?_, fun ha => ?_⟩
  · rw [ha] at hs
    cases z' <;> simp [zAgg] at hs
    exact ⟨_, rfl⟩
  · rw [ha] at hs
    cases z' <;> simp_all [zAgg, Value.cells]
theorem TdOk.run_isAgg : (Go.isAgg t).run P w = .ok (isAgg td.k) w := by
  obtain ⟨d, hd, hk⟩ := h.und
  simp only [Go.isAgg, Sem.run_bind, Go.run_underlying hd, Result.andThen_ok]
  generalize td.k = k at hk
  cases k <;> cases d <;> simp_all [kindOk, isAgg]
end

/-- the heap behind what an operation has done -/
def updH (H : Heap) (u : Upd) (nx : Nat) : Heap := fun x =>
  if nx ≤ x ∧ x < nx + u.al.length then u.al[x - nx]? else (u.wr.foldl (fun H p => fun y => if y = p.1 then some p.2 else H y) H) x

/-- nothing is touched but what is written, and new blocks -/
structure Fr (E : Env) (ids : List (Nat × AObj)) (w' : World) : Prop where
  os : w'.os = E.w.os
  tape : w'.tape = E.w.tape
  output : w'.output = E.w.output
  size : E.w.heap.size ≤ w'.heap.size

def opTmps (o : Op) : List Nat := o.operands.toList.filterMap fun | .tmp t => some t | _ => none

/-- the state that an operation leaves -/
structure After (E : Env) (nx : Nat) (u : Upd) (v : Value) (E' : Env) : Prop where
  H : E'.H = updH E.H u nx
  ok : E'.ok
  ev : Ev E E'
  fr : Fr E u.wr E'.w
  val : ∀ av, u.v = some av → RA E' av v
  D : E'.D = E.D
  dom : ∀ b, E.D b → E'.w.heap[b]? = E.w.heap[b]?

/-- what stands ahead of an operation -/
structure Ahead (E : Env) (a : Act) (t : List (Nat × AV)) (h : List (Nat × AObj)) (nx : Nat) (op : Op) (u : Upd) : Prop where
  ok : E.ok
  rd : ∀ id, id ∈ u.rd → E.H id = aget h id
  al : ∀ i, i < u.al.length → E.H (nx + i) = none
  tm : ∀ x, x ∈ opTmps op → ∀ av, aget t x = some av → RA E av (a.tmps.getD x undef)

def OpOk (P : Program) (op : Op) (t : List (Nat × AV)) (h : List (Nat × AObj)) (nx : Nat) (u : Upd) : Prop :=
  ∀ (o : Oper), o.op = op → ∀ (E : Env) (a : Act), Ahead E a t h nx op u → ∀ (K : Act → World → Prop) (Q : Exit → Act → World → Prop),
    (∀ v E', After E nx u v E' → K (a.put o.dst v) E'.w) → o.wp P a E.w K Q

theorem updH_nil (H : Heap) (v : Option AV) (r : List Nat) (nx : Nat) : updH H { v := v, rd := r } nx = H := by
  funext x
  unfold updH
  rw [if_neg (by simp)]
  rfl

theorem After.same {E : Env} {nx : Nat} {v : Value} {av : Option AV} {r : List Nat} (h : E.ok) (hv : ∀ x, av = some x → RA E x v) : After E nx { v := av, rd := r } v E where
  H := (updH_nil ..).symm
  ok := h
  ev := Ev.refl E
  fr := ⟨rfl, rfl, rfl, Nat.le_refl _⟩
  val := hv
  D := rfl
  dom := fun _ _ => rfl

theorem wp_of_run {P : Program} {o : Oper} {a : Act} {w w' : World} {K : Act → World → Prop} {Q : Exit → Act → World → Prop} {v : Value}
    (h : (execOp a.eval o).run P w = .ok (.value v) w') (hk : K (a.put o.dst v) w') : o.wp P a w K Q := by
  unfold Oper.wp
  rw [h]
  exact hk
theorem wp_of_skip {P : Program} {o : Oper} {a : Act} {w w' : World} {K : Act → World → Prop} {Q : Exit → Act → World → Prop}
    (h : (execOp a.eval o).run P w = .ok .skip w') (hk : K (a.put o.dst undef) w') : o.wp P a w K Q := by
  unfold Oper.wp
  rw [h]
  exact hk

/-- an operation that leaves the memory alone -/
theorem opOk_val {P : Program} {op : Op} {t : List (Nat × AV)} {h : List (Nat × AObj)} {nx : Nat} {av : AV} {r : List Nat}
    (hrun : ∀ (o : Oper), o.op = op → ∀ (E : Env) (a : Act), Ahead E a t h nx op { v := some av, rd := r } → ∃ v, (execOp a.eval o).run P E.w = .ok (.value v) E.w ∧ RA E av v) :
    OpOk P op t h nx { v := some av, rd := r } := by
  intro o ho E a hA K Q hK
  obtain ⟨v, hr, hv⟩ := hrun o ho E a hA
  exact wp_of_run hr (hK v E (After.same hA.ok fun x hx => by injection hx with hx; subst hx; exact hv))

/-! ### operands -/
theorem opnd_rel {E : Env} {a : Act} {t : List (Nat × AV)} {x : Operand} {av : AV} (h : opnd t x = some av) (ht : ∀ y, x = .tmp y → ∀ av, aget t y = some av → RA E av (a.tmps.getD y undef)) : RA E av (a.eval x) := by
  cases x with
  | tmp y => exact ht y rfl av h
  | const v =>
    simp only [opnd] at h
    cases hv : v.oneCell' with
    | false => simp [hv] at h
    | true => simp [hv] at h; subst h; exact ⟨rfl, hv⟩
  | global g => simp [opnd] at h
  | func f =>
    simp [opnd] at h
    subst h
    exact ⟨rfl, fun p hp => by simp at hp⟩
theorem opnd_in {E : Env} {a : Act} {t : List (Nat × AV)} {h : List (Nat × AObj)} {nx : Nat} {op : Op} {u : Upd} {x : Operand} {av : AV} (hA : Ahead E a t h nx op u) (hx : x ∈ op.operands.toList) (ho : opnd t x = some av) : RA E av (a.eval x) :=
  opnd_rel ho fun y hy av hav => hA.tm y (by subst hy; exact List.mem_filterMap.2 ⟨_, hx, rfl⟩) av hav
theorem opv_in {E : Env} {a : Act} {t : List (Nat × AV)} {h : List (Nat × AObj)} {nx : Nat} {op : Op} {u : Upd} {x : Operand} {v : VV} (hA : Ahead E a t h nx op u) (hx : x ∈ op.operands.toList) (ho : opv t x = some v) : RV E v (a.eval x) := by
  unfold opv at ho
  cases h1 : opnd t x with
  | none => simp [h1] at ho
  | some av =>
    cases av with
    | tup l => simp [h1, asV] at ho
    | v y => simp [h1, asV] at ho; subst ho; exact opnd_in hA hx h1

/-! ### a step's leaf -/
def Stp.get : Stp → Option Upd
  | .fail => none
  | .done u => some u
  | .test b y n => bif b then y.get else n.get
theorem Stp.run_get {k : Upd → Option Out} {r : Out} : ∀ {s : Stp}, s.run k = some r → ∃ u, s.get = some u ∧ k u = some r
  | .fail, h => by simp [Stp.run] at h
  | .done u, h => ⟨u, rfl, h⟩
  | .test b y n, h => by
    cases b with
    | true => exact Stp.run_get (s := y) h
    | false => exact Stp.run_get (s := n) h
theorem Stp.of_get {α : Type} {x : Option α} {f : α → Stp} {u : Upd} (h : (Stp.of x f).get = some u) : ∃ a, x = some a ∧ (f a).get = some u := by
  cases x with
  | none => simp [Stp.of, Stp.get] at h
  | some a => exact ⟨a, rfl, h⟩

/-! ### move, assign, pick, nilCheck, extract, makeFunc -/
theorem ok_move {P : Program} {t : List (Nat × AV)} {h : List (Nat × AObj)} {nx : Nat} {x : Operand} {v : AV} (hv : opnd t x = some v) : OpOk P (.move x) t h nx { v := some v } :=
  opOk_val fun o ho E a hA => ⟨a.eval x, by simp [execOp, ho], opnd_in hA (by simp [Op.operands]) hv⟩
theorem ok_assign {P : Program} {t : List (Nat × AV)} {h : List (Nat × AObj)} {nx : Nat} {x : Operand} {v : AV} (hv : opnd t x = some v) : OpOk P (.assign x) t h nx { v := some v } :=
  opOk_val fun o ho E a hA => ⟨a.eval x, by simp [execOp, ho], opnd_in hA (by simp [Op.operands]) hv⟩
theorem ok_pick {P : Program} {t : List (Nat × AV)} {h : List (Nat × AObj)} {nx : Nat} {c x y : Operand} {z : Bool} {v : AV} (hc : opnd t c = some (.b z)) (hv : opnd t (bif z then x else y) = some v) :
    OpOk P (.pick c x y) t h nx { v := some v } :=
  opOk_val fun o ho E a hA => by
    have hc' : a.eval c = .bool z := (opnd_in hA (by simp [Op.operands]) hc).1
    cases z with
    | true => exact ⟨a.eval x, by simp [execOp, ho, hc', asBool], opnd_in hA (by simp [Op.operands]) hv⟩
    | false => exact ⟨a.eval y, by simp [execOp, ho, hc', asBool], opnd_in hA (by simp [Op.operands]) hv⟩
theorem ok_nilCheck {P : Program} {t : List (Nat × AV)} {h : List (Nat × AObj)} {nx : Nat} {x : Operand} {v : AV} (hv : opnd t x = some v) (hk : ∀ E y, RA E v y → (∃ a, y = .pointer (some a)) ∨ ∃ f c, y = .func (.func f) #[] c) :
    OpOk P (.nilCheck x) t h nx { v := some v } :=
  opOk_val fun o ho E a hA => by
    have hv' := opnd_in hA (by simp [Op.operands]) hv
    rcases hk E _ hv' with ⟨p, e⟩ | ⟨f, c, e⟩
    · exact ⟨.pointer (some p), by simp [execOp, ho, e], by rw [← e]; exact hv'⟩
    · exact ⟨.func (.func f) #[] c, by simp [execOp, ho, e], by rw [← e]; exact hv'⟩
theorem ok_extract {P : Program} {t : List (Nat × AV)} {h : List (Nat × AObj)} {nx : Nat} {x : Operand} {i : Nat} {l : List VV} {v : VV} (hx : opnd t x = some (.tup l)) (hi : l[i]? = some v) :
    OpOk P (.extract x i) t h nx { v := some (.v v) } :=
  opOk_val fun o ho E a hA => by
    obtain ⟨vs, e, hl⟩ := opnd_in hA (by simp [Op.operands]) hx
    obtain ⟨y, hy, hr⟩ := hl.get hi
    exact ⟨y, by simp [execOp, ho, e, Instr.extract, show vs[i]? = some y by simpa using hy], hr⟩
end Go.Ve

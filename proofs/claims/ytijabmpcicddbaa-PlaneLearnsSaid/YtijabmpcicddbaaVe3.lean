/- The evaluator ("VE"): what its values and objects say of the machine's memory; what stays. -/
import Derived.Test.YtijabmpcicddbaaVe2
namespace Go.Ve

/-- two lists, element by element -/
inductive RL {α β : Type} (R : α → β → Prop) : List α → List β → Prop where
  | nil : RL R [] []
  | cons {a b l r} : R a b → RL R l r → RL R (a :: l) (b :: r)
theorem RL.mono {α β : Type} {R R' : α → β → Prop} {l : List α} {r : List β} (h : RL R l r) (hm : ∀ a b, R a b → R' a b) : RL R' l r := by
  induction h with
  | nil => exact .nil
  | cons h _ ih => exact .cons (hm _ _ h) ih
theorem RL.length {α β : Type} {R : α → β → Prop} {l : List α} {r : List β} (h : RL R l r) : l.length = r.length := by
  induction h with
  | nil => rfl
  | cons _ _ ih => simp [ih]
theorem RL.append {α β : Type} {R : α → β → Prop} {l l' : List α} {r r' : List β} (h : RL R l r) (h' : RL R l' r') : RL R (l ++ l') (r ++ r') := by
  induction h with
  | nil => exact h'
  | cons h _ ih => exact .cons h ih
theorem RL.drop {α β : Type} {R : α → β → Prop} {l : List α} {r : List β} (h : RL R l r) (n : Nat) : RL R (l.drop n) (r.drop n) := by
  induction h generalizing n with
  | nil => simpa using RL.nil
  | cons h t ih => cases n with
    | zero => exact .cons h t
    | succ n => exact ih n
theorem RL.take {α β : Type} {R : α → β → Prop} {l : List α} {r : List β} (h : RL R l r) (n : Nat) : RL R (l.take n) (r.take n) := by
  induction h generalizing n with
  | nil => simpa using RL.nil
  | cons h t ih => cases n with
    | zero => exact .nil
    | succ n => exact .cons h (ih n)
theorem RL.get {α β : Type} {R : α → β → Prop} {l : List α} {r : List β} (h : RL R l r) {i : Nat} {a : α} (ha : l[i]? = some a) : ∃ b, r[i]? = some b ∧ R a b := by
  induction h generalizing i with
  | nil => simp at ha
  | cons h t ih => cases i with
    | zero => simp at ha; subst ha; exact ⟨_, rfl, h⟩
    | succ i => simpa using ih (i := i) (by simpa using ha)
theorem RL.get' {α β : Type} {R : α → β → Prop} {l : List α} {r : List β} (h : RL R l r) {i : Nat} {b : β} (hb : r[i]? = some b) : ∃ a, l[i]? = some a ∧ R a b := by
  induction h generalizing i with
  | nil => simp at hb
  | cons h t ih => cases i with
    | zero => simp at hb; subst hb; exact ⟨_, rfl, h⟩
    | succ i => simpa using ih (i := i) (by simpa using hb)
theorem RL.map {α β α' β' : Type} {R : α → β → Prop} {R' : α' → β' → Prop} {f : α → α'} {g : β → β'} {l : List α} {r : List β} (h : RL R l r) (hm : ∀ a b, R a b → R' (f a) (g b)) : RL R' (l.map f) (r.map g) := by
  induction h with
  | nil => exact .nil
  | cons h _ ih => exact .cons (hm _ _ h) ih
theorem RL.of_get {α β : Type} {R : α → β → Prop} : ∀ {l : List α} {r : List β}, l.length = r.length → (∀ (i : Nat) (a : α) (b : β), l[i]? = some a → r[i]? = some b → R a b) → RL R l r
  | [], [], _, _ => .nil
  | a :: l, b :: r, hl, h => .cons (h 0 a b rfl rfl) (RL.of_get (by simpa using hl) fun i x y hx hy => h (i + 1) x y (by simpa using hx) (by simpa using hy))
  | [], _ :: _, hl, _ => by simp at hl
  | _ :: _, [], hl, _ => by simp at hl

abbrev Heap := Nat → Option AObj

/-- a plain value, or a slice that nobody writes: its cells lie in blocks of S -/
def RP (S : Nat → Prop) (w : World) : PV → Value → Prop
  | .val v, x => x = v ∧ v.oneCell' = true
  | .sl nl k esz n f, x => RowK k n f ∧ ∃ ad cap, x = .slice ad n cap ∧ n ≤ cap ∧ (nl = ad.isNone) ∧ (ad = none → n = 0 ∧ cap = 0) ∧
      (0 < n → ∃ b o, ad = some ⟨b, o, none⟩ ∧ S b ∧ ∀ j, j < n → ∀ c, c < esz → ∃ y, w.cell? ⟨b, o + j * esz + c, none⟩ = some y ∧ RP S w (f j c) y)

theorem RP.mono {S S' : Nat → Prop} {w w' : World} (hS : ∀ b, S b → S' b) (hw : ∀ b, S b → w'.heap[b]? = w.heap[b]?) : ∀ {p : PV} {x : Value}, RP S w p x → RP S' w' p x
  | .val v, x, h => h
  | .sl nl k esz n f, x, ⟨hk, ad, cap, hx, hc, h1, h2, h⟩ => ⟨hk, ad, cap, hx, hc, h1, h2, fun hn =>
    let ⟨b, o, ha, hb, hcell⟩ := h hn
    ⟨b, o, ha, hS b hb, fun j hj c hcc =>
      let ⟨y, hy, hr⟩ := hcell j hj c hcc
      ⟨y, by rw [← hy]; exact World.cell?_of_block (w := w) (hw b hb), RP.mono hS hw hr⟩⟩⟩

theorem RP.norm {S : Nat → Prop} {w : World} {k : CK} {p : PV} {x : Value} (hk : ckOk k p) (h : RP S w p x) : RP S w (ckNorm k p) x := by
  unfold ckNorm
  unfold ckOk at hk
  cases k with
  | int kk r => obtain ⟨m, rfl⟩ := hk; exact h
  | bool r => obtain ⟨m, rfl⟩ := hk; exact h
  | str r => obtain ⟨m, rfl⟩ := hk; exact h
  | sl a e r =>
    rcases hk with rfl | ⟨b, n, f, rfl⟩
    · obtain ⟨rfl, _⟩ := h
      exact ⟨fun j hj => absurd hj (by simp [lenOf]), none, 0, rfl, Nat.le_refl _, rfl, fun _ => ⟨rfl, rfl⟩, fun hn => absurd hn (by simp [lenOf])⟩
    · exact h
  | _ => exact h

def rw : AObj → Bool
  | .cells false _ | .parr false false _ _ _ _ | .mapo .. => true
  | _ => false
/-- does it have a block? -/
def blkd : AObj → Bool
  | .dead => false
  | .parr _ nl _ _ _ _ => !nl
  | _ => true
theorem rw_blkd {o : AObj} (h : rw o = true) : blkd o = true := by
  cases o with
  | parr ro nl => cases ro <;> cases nl <;> simp_all [rw, blkd]
  | _ => simp_all [rw, blkd]
theorem blkd_live {o : AObj} (h : blkd o = true) : live o = true := by cases o <;> simp_all [live, blkd]
theorem rw_live {o : AObj} (h : rw o = true) : live o = true := blkd_live (rw_blkd h)

/-- what the abstract heap's objects are in memory -/
structure Env where
  ι : Nat → Nat
  H : Heap
  D : Nat → Prop
  w : World

def Env.S (E : Env) (b : Nat) : Prop := b < E.w.heap.size ∧ ¬ E.D b ∧ ∀ id o, E.H id = some o → rw o = true → E.ι id ≠ b

/-- what is frozen of a block lies behind its cells -/
def FrOk (n : Nat) (fr : Nat × Nat) : Prop := fr.1 ≤ fr.2 ∧ ∀ j, j < n + frx → ¬ (fr.1 ≤ j ∧ j < fr.2)
def Env.blk (E : Env) (id : Nat) (cs : Array Value) : Prop := ∃ T fr, E.w.heap[E.ι id]? = some (.cells cs T fr) ∧ FrOk cs.size fr

/-- the slice of the first m elements of an owned one -/
def OwnV (E : Env) (id : Nat) (nl : Bool) (esz n m : Nat) (x : Value) : Prop :=
  m ≤ n ∧ ((nl = true ∧ n = 0 ∧ x = .slice none 0 0) ∨ (nl = false ∧ ∃ cap cs, x = .slice (some ⟨E.ι id, 0, none⟩) m cap ∧ n ≤ cap ∧ E.blk id cs ∧ cap * esz ≤ cs.size))
def RC (E : Env) : CV → Value → Prop
  | .pv p, x => RP E.S E.w p x
  | .dead, x => x.oneCell' = true
  | .ptr id off, x => match E.H id with
    | some (.cells _ _) => x = .pointer (some ⟨E.ι id, off, none⟩)
    | _ => False
  | .ept id i off, x => match E.H id with
    | some (.parr _ _ _ esz n _) => x = .pointer (some ⟨E.ι id, i * esz + off, none⟩) ∧ i < n
    | some .dead => x.oneCell' = true
    | _ => False
  | .pel esz g off, x => ∃ b p, x = .pointer (some ⟨b, p + off, none⟩) ∧ E.S b ∧ ∀ c, c < esz → ∃ y, E.w.cell? ⟨b, p + c, none⟩ = some y ∧ RP E.S E.w (g c) y
  | .own id, x => match E.H id with
    | some (.parr _ nl _ esz n _) => OwnV E id nl esz n n x
    | some .dead => x.oneCell' = true
    | _ => False
  | .pre id m, x => match E.H id with
    | some (.parr _ nl _ esz n _) => OwnV E id nl esz n m x
    | some .dead => x.oneCell' = true
    | _ => False
  | .sub id lo m, x => match E.H id with
    | some (.parr _ nl _ esz n _) => lo + m ≤ n ∧ ((nl = true ∧ n = 0 ∧ x = .slice none 0 0) ∨ (nl = false ∧ ∃ ad cap, x = .slice (some ad) m cap ∧ m ≤ cap ∧ (0 < m → ad = ⟨E.ι id, lo * esz, none⟩)))
    | some .dead => x.oneCell' = true
    | _ => False
  | .csl id base m esz, x => match E.H id with
    | some (.cells _ l) => base + m * esz ≤ l.length ∧ ∃ ad cap, x = .slice (some ad) m cap ∧ m ≤ cap ∧ (0 < m → ad = ⟨E.ι id, base, none⟩)
    | _ => False
  | .mp id, x => match E.H id with
    | some (.mapo ..) => x = .map (some (E.ι id))
    | some .dead => x.oneCell' = true
    | _ => False
  | .clo f caps, x => x = .func (.func f) #[] (caps.map fun p => Value.pointer (some ⟨E.ι p.1, p.2, none⟩)).toArray ∧ ∀ p, p ∈ caps → ∃ ro l, E.H p.1 = some (.cells ro l)

/-- cells as a value (a: an aggregate) -/
def RE (E : Env) (a : Bool) (l : List PV) (x : Value) : Prop :=
  match a with
  | true => ∃ cs, x = .agg cs ∧ RL (RC E) (l.map .pv) cs.toList
  | false => ∃ p, l = [p] ∧ RC E (.pv p) x
/-- an entry of a map -/
def ME (E : Env) (kz : List Value) (ka : Bool) (vc : CK) (vs : Nat) (va : Bool) (p : List PV × List PV) (e : MapEntry) : Prop :=
  keyIs kz p.1 = true ∧ p.2.length = vs ∧ (∀ c, c < p.2.length → ckOk (kDrop vc c) (p.2.getD c (.val undef))) ∧ RE E ka p.1 e.key ∧ RE E va p.2 e.val
/-- a map's stamps: each entry's own, and below the clock -/
def Stm (es : Array MapEntry) (cl : Nat) : Prop := (∀ x ∈ es.toList, x.born < cl) ∧ (es.toList.map (·.born)).Nodup
theorem Stm.nil (cl : Nat) : Stm #[] cl := ⟨by simp, by simp⟩
theorem Stm.push {es : Array MapEntry} {cl : Nat} (h : Stm es cl) (k v : Value) : Stm (es.push { key := k, val := v, born := cl }) (cl + 1) := by
  obtain ⟨h1, h2⟩ := h
  refine ⟨fun x hx => ?_, ?_⟩
  · rw [Array.toList_push, List.mem_append, List.mem_singleton] at hx
    rcases hx with hx | rfl
    · have := h1 x hx; omega
    · exact Nat.lt_succ_self cl
  · rw [Array.toList_push, List.map_append, List.nodup_append]
    refine ⟨h2, by simp, fun a ha b hb => ?_⟩
    obtain ⟨x, hx, rfl⟩ := List.mem_map.1 ha
    simp only [List.map_cons, List.map_nil, List.mem_singleton] at hb
    subst hb
    have := h1 x hx
    omega
theorem modify_map {α β : Type} (f : α → β) (g : α → α) (h : ∀ x, f (g x) = f x) : ∀ (l : List α) (j : Nat), (l.modify j g).map f = l.map f
  | [], j => by cases j <;> rfl
  | a :: l, 0 => by simp [h]
  | a :: l, j + 1 => by
    have := modify_map f g h l j
    simp only [List.modify_succ_cons, List.map_cons, this]
theorem Stm.modify {es : Array MapEntry} {cl : Nat} (h : Stm es cl) (j : Nat) (k v : Value) : Stm (es.modify j fun e => { e with key := k, val := v }) cl := by
  have e : ((es.modify j fun e => { e with key := k, val := v }).toList.map (·.born)) = es.toList.map (·.born) := by
    rw [Array.toList_modify]
    exact modify_map MapEntry.born (fun e : MapEntry => { e with key := k, val := v }) (fun _ => rfl) _ _
  refine ⟨fun x hx => ?_, by rw [e]; exact h.2⟩
  have : x.born ∈ (es.modify j fun e => { e with key := k, val := v }).toList.map (·.born) := List.mem_map.2 ⟨x, hx, rfl⟩
  rw [e] at this
  obtain ⟨y, hy, hyx⟩ := List.mem_map.1 this
  rw [← hyx]
  exact h.1 y hy
def RO (E : Env) (id : Nat) : AObj → Prop
  | .dead => True
  | .cells ro l => ∃ cs, E.blk id cs ∧ RL (RC E) l cs.toList ∧ (ro = true → E.S (E.ι id))
  | .parr ro nl k esz n f => RowK k n f ∧ ((nl = true ∧ n = 0) ∨ (nl = false ∧ ∃ cs, E.blk id cs ∧ n * esz ≤ cs.size ∧ (∀ j, j < n → ∀ c, c < esz → ∃ y, cs[j * esz + c]? = some y ∧ RP E.S E.w (f j c) y) ∧ (ro = true → E.S (E.ι id))))
  | .mapo kz ka vc vs va l => ∃ es clock, E.w.heap[E.ι id]? = some (.map es clock) ∧ RL (ME E kz ka vc vs va) l es.toList ∧ Stm es clock

/-- the tables lie as they were laid, and nobody writes them -/
def Gl (E : Env) : Prop := ∀ b p, (b, p) ∈ tabs → E.S b ∧ ∃ cs T fr, E.w.heap[b]? = some (.cells cs T fr) ∧ p cs
theorem Gl.mono {E E' : Env} (h : Gl E) (s : ∀ b, E.S b → E'.S b) (c : ∀ b, E.S b → E'.w.heap[b]? = E.w.heap[b]?) : Gl E' := fun b p hb => by
  obtain ⟨h1, cs, T, fr, h2, h3⟩ := h b p hb
  exact ⟨s b h1, cs, T, fr, (c b h1).trans h2, h3⟩
structure Env.ok (E : Env) : Prop where
  obj : ∀ id o, E.H id = some o → RO E id o
  inj : ∀ i j oi oj, E.H i = some oi → E.H j = some oj → rw oi = true → blkd oj = true → i ≠ j → E.ι i ≠ E.ι j
  out : ∀ i o, E.H i = some o → rw o = true → ¬ E.D (E.ι i)
  dom : ∀ b, E.D b → b < E.w.heap.size
  gl : Gl E

def RV (E : Env) : VV → Value → Prop
  | .c x, v => RC E x v
  | .agg l, v => ∃ cs, v = .agg cs ∧ RL (RC E) l cs.toList
def RA (E : Env) : AV → Value → Prop
  | .v x, v => RV E x v
  | .tup l, v => ∃ vs, v = .tuple vs ∧ RL (RV E) l vs.toList

/-- an object later on: gone, or of the same shape -/
def shape : AObj → AObj → Bool
  | _, .dead => true
  | .cells _ l, .cells _ l' => l.length == l'.length
  | .parr _ nl _ e n _, .parr _ nl' _ e' n' _ => nl == nl' && e == e' && n == n'
  | .mapo .., .mapo .. => true
  | _, _ => false

/-- from one state to a later one -/
structure Ev (E E' : Env) : Prop where
  s : ∀ b, E.S b → E'.S b
  c : ∀ b, E.S b → E'.w.heap[b]? = E.w.heap[b]?
  i : ∀ id o, E.H id = some o → E'.ι id = E.ι id
  h : ∀ id o, E.H id = some o → ∃ o', E'.H id = some o' ∧ (shape o o' = true) ∧ ((∃ ro l, o = .cells ro l) → live o' = true)
  z : ∀ id o o' cs, E.H id = some o → E'.H id = some o' → blkd o' = true → E.blk id cs → ∃ cs', E'.blk id cs' ∧ cs'.size = cs.size

theorem Ev.refl (E : Env) : Ev E E :=
  ⟨fun _ h => h, fun _ _ => rfl, fun _ _ _ => rfl, fun id o h => ⟨o, h, by cases o <;> simp [shape], fun ⟨_, _, e⟩ => by subst e; rfl⟩, fun _ _ _ cs _ _ _ h => ⟨cs, h, rfl⟩⟩

theorem shape_blkd {o o' : AObj} (h : shape o o' = true) (hl : blkd o' = true) : blkd o = true := by
  cases o <;> cases o' <;> simp_all [shape, blkd]
theorem shape_live {o o' : AObj} (h : shape o o' = true) (hl : live o' = true) : live o = true := by
  cases o <;> cases o' <;> simp_all [shape, live]

theorem Ev.trans {A B C : Env} (h : Ev A B) (k : Ev B C) : Ev A C where
  s b hb := k.s b (h.s b hb)
  c b hb := (k.c b (h.s b hb)).trans (h.c b hb)
  i id o ho := by
    obtain ⟨o', h', _⟩ := h.h id o ho
    exact (k.i id o' h').trans (h.i id o ho)
  h id o ho := by
    obtain ⟨o', h', hs, hl⟩ := h.h id o ho
    obtain ⟨o'', h'', hs', hl'⟩ := k.h id o' h'
    refine ⟨o'', h'', ?_, ?_⟩
    · cases o <;> cases o' <;> cases o'' <;> simp_all [shape]
    · rintro ⟨ro, l, rfl⟩
      have h1 := hl ⟨ro, l, rfl⟩
      cases o' <;> simp_all [shape, live]
  z id o o' cs ho ho' hlive hb := by
    obtain ⟨o1, h1, hs, hl⟩ := h.h id o ho
    obtain ⟨o2, h2, hs', hl'⟩ := k.h id o1 h1
    have e : o2 = o' := by rw [h2] at ho'; exact Option.some.inj ho'
    subst e
    obtain ⟨c1, hc1, e1⟩ := h.z id o o1 cs ho h1 (shape_blkd hs' hlive) hb
    obtain ⟨c2, hc2, e2⟩ := k.z id o1 o2 c1 h1 h2 hlive hc1
    exact ⟨c2, hc2, e2.trans e1⟩

theorem OwnV.one {E : Env} {id : Nat} {nl : Bool} {esz n m : Nat} {x : Value} (h : OwnV E id nl esz n m x) : x.oneCell' = true := by
  rcases h.2 with ⟨_, _, rfl⟩ | ⟨_, cap, cs, rfl, _⟩ <;> rfl
theorem OwnV.real {E : Env} {id : Nat} {nl : Bool} {esz n m : Nat} {x : Value} (h : OwnV E id nl esz n m x) (hm : 0 < m) : m ≤ n ∧ nl = false ∧ ∃ cap cs, x = .slice (some ⟨E.ι id, 0, none⟩) m cap ∧ n ≤ cap ∧ E.blk id cs ∧ cap * esz ≤ cs.size := by
  rcases h.2 with ⟨_, h0, _⟩ | ⟨h0, h1⟩
  · have := h.1; omega
  · exact ⟨h.1, h0, h1⟩
theorem OwnV.slice {E : Env} {id : Nat} {nl : Bool} {esz n m : Nat} {x : Value} (h : OwnV E id nl esz n m x) : ∃ a c, x = .slice a m c ∧ m ≤ c := by
  rcases h.2 with ⟨_, h0, rfl⟩ | ⟨_, cap, cs, rfl, hc, _⟩
  · have := h.1; exact ⟨none, 0, by rw [show m = 0 by omega], by omega⟩
  · exact ⟨_, cap, rfl, Nat.le_trans h.1 hc⟩
theorem OwnV.mono {E E' : Env} (v : Ev E E') {id : Nat} {ro nl : Bool} {k : CK} {esz n m : Nat} {f : Nat → Nat → PV} {ro' nl' : Bool} {k' : CK} {esz' n' : Nat} {f' : Nat → Nat → PV} {x : Value} (ho : E.H id = some (.parr ro nl k esz n f)) (ho' : E'.H id = some (.parr ro' nl' k' esz' n' f')) (hs : shape (.parr ro nl k esz n f) (.parr ro' nl' k' esz' n' f') = true) (h : OwnV E id nl esz n m x) :
    nl' = nl ∧ esz' = esz ∧ n' = n ∧ OwnV E' id nl esz n m x := by
  simp only [shape, Bool.and_eq_true, beq_iff_eq] at hs
  obtain ⟨⟨rfl, rfl⟩, rfl⟩ := hs
  refine ⟨rfl, rfl, rfl, h.1, ?_⟩
  rcases h.2 with hh | ⟨rfl, cap, cs, e, hn, hb, hc⟩
  · exact .inl hh
  · obtain ⟨cs', hb', e'⟩ := v.z id _ _ cs ho ho' rfl hb
    exact .inr ⟨rfl, cap, cs', by rw [e, v.i id _ ho], hn, hb', by omega⟩
theorem RC.mono {E E' : Env} (v : Ev E E') {x : CV} {y : Value} (h : RC E x y) : RC E' x y := by
  cases x with
  | pv p => exact RP.mono v.s v.c h
  | dead => exact h
  | ptr id off =>
    simp only [RC] at h ⊢
    cases ho : E.H id with
    | none => simp [ho] at h
    | some o =>
      obtain ⟨o', ho', hs, hl⟩ := v.h id o ho
      cases o <;> simp [ho] at h
      have := hl ⟨_, _, rfl⟩
      cases o' <;> simp_all [shape, live, v.i id _ ho]
  | ept id i off =>
    simp only [RC] at h ⊢
    cases ho : E.H id with
    | none => simp [ho] at h
    | some o =>
      obtain ⟨o', ho', hs, hl⟩ := v.h id o ho
      cases o <;> simp [ho] at h <;> cases o' <;> simp_all [shape, live, v.i id _ ho, Value.oneCell']
  | pel esz g off =>
    obtain ⟨b, p, e, hb, hc⟩ := h
    exact ⟨b, p, e, v.s b hb, fun c hcc => let ⟨y, hy, hr⟩ := hc c hcc; ⟨y, by rw [← hy]; exact World.cell?_of_block (w := E.w) (v.c b hb), RP.mono v.s v.c hr⟩⟩
  | own id =>
    simp only [RC] at h ⊢
    cases ho : E.H id with
    | none => simp [ho] at h
    | some o =>
      obtain ⟨o', ho', hs, hl⟩ := v.h id o ho
      cases o with
      | cells => simp [ho] at h
      | mapo => simp [ho] at h
      | dead => cases o' <;> simp_all [shape]
      | parr ro nl kk esz n f =>
        simp only [ho] at h
        cases o' with
        | dead => simp only [ho']; exact h.one
        | cells => simp [shape] at hs
        | mapo => simp [shape] at hs
        | parr ro' nl' kk' esz' n' f' =>
          obtain ⟨rfl, rfl, rfl, h'⟩ := OwnV.mono v ho ho' hs h
          simp only [ho']
          exact h'
  | pre id m =>
    simp only [RC] at h ⊢
    cases ho : E.H id with
    | none => simp [ho] at h
    | some o =>
      obtain ⟨o', ho', hs, hl⟩ := v.h id o ho
      cases o with
      | cells => simp [ho] at h
      | mapo => simp [ho] at h
      | dead => cases o' <;> simp_all [shape]
      | parr ro nl kk esz n f =>
        simp only [ho] at h
        cases o' with
        | dead => simp only [ho']; exact h.one
        | cells => simp [shape] at hs
        | mapo => simp [shape] at hs
        | parr ro' nl' kk' esz' n' f' =>
          obtain ⟨rfl, rfl, rfl, h'⟩ := OwnV.mono v ho ho' hs h
          simp only [ho']
          exact h'
  | sub id lo m =>
    simp only [RC] at h ⊢
    cases ho : E.H id with
    | none => simp [ho] at h
    | some o =>
      obtain ⟨o', ho', hs, hl⟩ := v.h id o ho
      cases o <;> simp [ho] at h <;> cases o' <;> simp_all [shape, live, v.i id _ ho]
      rcases h.2 with ⟨_, _, e⟩ | ⟨_, ad, cap, e, _⟩ <;> simp [e, Value.oneCell']
  | csl id base m esz =>
    simp only [RC] at h ⊢
    cases ho : E.H id with
    | none => simp [ho] at h
    | some o =>
      obtain ⟨o', ho', hs, hl⟩ := v.h id o ho
      cases o <;> simp [ho] at h
      have := hl ⟨_, _, rfl⟩
      cases o' <;> simp_all [shape, live, v.i id _ ho]
  | mp id =>
    simp only [RC] at h ⊢
    cases ho : E.H id with
    | none => simp [ho] at h
    | some o =>
      obtain ⟨o', ho', hs, hl⟩ := v.h id o ho
      cases o <;> simp [ho] at h <;> cases o' <;> simp_all [shape, live, v.i id _ ho, Value.oneCell']
  | clo f caps =>
    obtain ⟨e, hc⟩ := h
    refine ⟨?_, fun p hp => ?_⟩
    · rw [e]
      congr 2
      refine List.map_congr_left fun p hp => ?_
      obtain ⟨ro, l, ho⟩ := hc p hp
      rw [v.i _ _ ho]
    · obtain ⟨ro, l, ho⟩ := hc p hp
      obtain ⟨o', ho', hs, hl⟩ := v.h _ _ ho
      have := hl ⟨_, _, rfl⟩
      cases o' with
      | cells ro' l' => exact ⟨ro', l', ho'⟩
      | dead => simp [live] at this
      | parr => simp [shape] at hs
      | mapo => simp [shape] at hs

theorem RV.mono {E E' : Env} (v : Ev E E') {x : VV} {y : Value} (h : RV E x y) : RV E' x y := by
  cases x with
  | c x => exact RC.mono v h
  | agg l => obtain ⟨cs, e, hl⟩ := h; exact ⟨cs, e, hl.mono fun _ _ => RC.mono v⟩
theorem RA.mono {E E' : Env} (v : Ev E E') {x : AV} {y : Value} (h : RA E x y) : RA E' x y := by
  cases x with
  | v x => exact RV.mono v h
  | tup l => obtain ⟨cs, e, hl⟩ := h; exact ⟨cs, e, hl.mono fun _ _ => RV.mono v⟩

theorem RP.one {S : Nat → Prop} {w : World} {p : PV} {x : Value} (h : RP S w p x) : x.oneCell' = true := by
  cases p with
  | val v => obtain ⟨rfl, h⟩ := h; exact h
  | sl nl => obtain ⟨_, ad, _, rfl, _⟩ := h; cases ad <;> rfl
theorem RC.one {E : Env} {x : CV} {v : Value} (h : RC E x v) : v.oneCell' = true := by
  cases x with
  | pv p => exact RP.one h
  | dead => exact h
  | ptr id off => simp only [RC] at h; split at h <;> simp_all [Value.oneCell']
  | ept id i off => simp only [RC] at h; split at h <;> simp_all [Value.oneCell']
  | pel => obtain ⟨_, _, rfl, _⟩ := h; rfl
  | own id =>
    simp only [RC] at h
    split at h
    · exact h.one
    · exact h
    · exact h.elim
  | pre id m =>
    simp only [RC] at h
    split at h
    · exact h.one
    · exact h
    · exact h.elim
  | sub id lo m =>
    simp only [RC] at h
    split at h
    · rcases h.2 with ⟨_, _, rfl⟩ | ⟨_, _, _, rfl, _⟩ <;> rfl
    · exact h
    · exact h.elim
  | csl id b m e =>
    simp only [RC] at h
    split at h
    · obtain ⟨_, _, _, rfl, _⟩ := h; rfl
    · exact h.elim
  | mp id =>
    simp only [RC] at h
    split at h
    · subst h; rfl
    · exact h
    · exact h.elim
  | clo => obtain ⟨rfl, _⟩ := h; rfl

/-! ### steps of the state -/
theorem Env.blk_lt {E : Env} {id : Nat} {cs : Array Value} (h : E.blk id cs) : E.ι id < E.w.heap.size := by
  obtain ⟨T, fr, h, _⟩ := h
  exact (Array.getElem?_eq_some_iff.1 h).1
theorem Env.blk_unique {E : Env} {id : Nat} {cs cs' : Array Value} (h : E.blk id cs) (h' : E.blk id cs') : cs = cs' := by
  obtain ⟨T, fr, h, _⟩ := h
  obtain ⟨T', fr', h', _⟩ := h'
  rw [h] at h'
  injection h' with h'
  injection h'
theorem Env.blk_same {E E' : Env} {id : Nat} {cs : Array Value} (h : E.blk id cs) (hi : E'.ι id = E.ι id) (hw : E'.w.heap[E.ι id]? = E.w.heap[E.ι id]?) : E'.blk id cs := by
  obtain ⟨T, fr, h, k⟩ := h
  exact ⟨T, fr, by rw [hi, hw, h], k⟩
theorem RO.lt {E : Env} {id : Nat} {o : AObj} (h : RO E id o) (hl : blkd o = true) : E.ι id < E.w.heap.size := by
  cases o with
  | dead => simp [blkd] at hl
  | cells ro l => obtain ⟨cs, h, _⟩ := h; exact Env.blk_lt h
  | parr ro nl k e n f =>
    rcases h.2 with ⟨rfl, _⟩ | ⟨rfl, cs, h, _⟩
    · simp [blkd] at hl
    · exact Env.blk_lt h
  | mapo => obtain ⟨es, cl, h, _⟩ := h; exact (Array.getElem?_eq_some_iff.1 h).1
theorem RO.real {E : Env} {id : Nat} {ro nl : Bool} {k : CK} {e n : Nat} {f : Nat → Nat → PV} (h : RO E id (.parr ro nl k e n f)) (hn : 0 < n) :
    nl = false ∧ ∃ cs, E.blk id cs ∧ n * e ≤ cs.size ∧ RowK k n f ∧ (∀ j, j < n → ∀ c, c < e → ∃ y, cs[j * e + c]? = some y ∧ RP E.S E.w (f j c) y) ∧ (ro = true → E.S (E.ι id)) := by
  rcases h.2 with ⟨_, h0⟩ | ⟨h0, cs, h1, h2, h3, h4⟩
  · omega
  · exact ⟨h0, cs, h1, h2, h.1, h3, h4⟩
theorem RO.same {E : Env} {id : Nat} {ro nl : Bool} {k : CK} {e n : Nat} {f : Nat → Nat → PV} (h : RO E id (.parr ro nl k e n f)) (hn : nl = false) :
    ∃ cs, E.blk id cs ∧ n * e ≤ cs.size ∧ RowK k n f ∧ (∀ j, j < n → ∀ c, c < e → ∃ y, cs[j * e + c]? = some y ∧ RP E.S E.w (f j c) y) ∧ (ro = true → E.S (E.ι id)) := by
  rcases h.2 with ⟨h0, _⟩ | ⟨h0, cs, h1, h2, h3, h4⟩
  · rw [hn] at h0; cases h0
  · exact ⟨cs, h1, h2, h.1, h3, h4⟩
theorem RE.mono {E E' : Env} (v : Ev E E') {a : Bool} {l : List PV} {x : Value} (h : RE E a l x) : RE E' a l x := by
  cases a with
  | true => obtain ⟨cs, e, hl⟩ := h; exact ⟨cs, e, hl.mono fun _ _ => RC.mono v⟩
  | false => obtain ⟨p, e, hl⟩ := h; exact ⟨p, e, RC.mono v hl⟩
theorem ME.mono {E E' : Env} (v : Ev E E') {kz : List Value} {ka : Bool} {vc : CK} {vs : Nat} {va : Bool} {p : List PV × List PV} {e : MapEntry} (h : ME E kz ka vc vs va p e) : ME E' kz ka vc vs va p e :=
  ⟨h.1, h.2.1, h.2.2.1, h.2.2.2.1.mono v, h.2.2.2.2.mono v⟩
theorem RO.mono {E E' : Env} (v : Ev E E') {id : Nat} {o : AObj} (h : RO E id o) (hH : E.H id = some o) (hw : blkd o = true → E'.w.heap[E.ι id]? = E.w.heap[E.ι id]?) : RO E' id o := by
  have hi := v.i id o hH
  cases o with
  | dead => trivial
  | cells ro l =>
    obtain ⟨cs, hb, hl, hr⟩ := h
    exact ⟨cs, Env.blk_same hb hi (hw rfl), hl.mono fun _ _ => RC.mono v, fun e => by rw [hi]; exact v.s _ (hr e)⟩
  | parr ro nl k e n f =>
    refine ⟨h.1, ?_⟩
    rcases h.2 with hh | ⟨rfl, cs, hb, hn, hl, hr⟩
    · exact .inl hh
    · exact .inr ⟨rfl, cs, Env.blk_same hb hi (hw rfl), hn, fun j hj c hc => let ⟨y, hy, hp⟩ := hl j hj c hc; ⟨y, hy, RP.mono v.s v.c hp⟩, fun e => by rw [hi]; exact v.s _ (hr e)⟩
  | mapo =>
    obtain ⟨es, cl, hb, hl, hst⟩ := h
    exact ⟨es, cl, by rw [hi, hw rfl, hb], hl.mono fun _ _ => ME.mono v, hst⟩

/-- what a step of the state has to show -/
structure Go1 (E E' : Env) : Prop where
  D : E'.D = E.D
  size : E.w.heap.size ≤ E'.w.heap.size
  i : ∀ id o, E.H id = some o → E'.ι id = E.ι id
  h : ∀ id o, E.H id = some o → ∃ o', E'.H id = some o' ∧ (shape o o' = true) ∧ ((∃ ro l, o = .cells ro l) → live o' = true)
  c : ∀ b, E.S b → E'.w.heap[b]? = E.w.heap[b]?
  r : ∀ id o', E'.H id = some o' → blkd o' = true → (∃ o, E.H id = some o ∧ (rw o' = true → rw o = true)) ∨ (E.H id = none ∧ E.w.heap.size ≤ E'.ι id)
  u : ∀ i j oi oj, E'.H i = some oi → E'.H j = some oj → E.H i = none → E.H j = none → i ≠ j → E'.ι i ≠ E'.ι j
  z : ∀ id o o' cs, E.H id = some o → E'.H id = some o' → blkd o' = true → E.blk id cs → ∃ cs', E'.blk id cs' ∧ cs'.size = cs.size
theorem Go1.ev {E E' : Env} (g : Go1 E E') : Ev E E' where
  s b hb := by
    refine ⟨Nat.lt_of_lt_of_le hb.1 g.size, by rw [g.D]; exact hb.2.1, fun id o' ho' hr => ?_⟩
    rcases g.r id o' ho' (rw_blkd hr) with ⟨o, ho, hrw⟩ | ⟨_, hge⟩
    · rw [g.i id o ho]; exact hb.2.2 id o ho (hrw hr)
    · have := hb.1; omega
  c := g.c
  i := g.i
  h := g.h
  z := g.z
theorem Go1.ok {E E' : Env} (g : Go1 E E') (k : E.ok) (ho : ∀ id o', E'.H id = some o' → (E.H id = some o' ∧ (blkd o' = true → E'.w.heap[E.ι id]? = E.w.heap[E.ι id]?)) ∨ RO E' id o') : E'.ok where
  obj id o' h := by
    rcases ho id o' h with ⟨h1, h2⟩ | h1
    · exact RO.mono g.ev (k.obj id o' h1) h1 h2
    · exact h1
  inj i j oi oj hi hj hri hlj hne := by
    have hli : blkd oi = true := rw_blkd hri
    rcases g.r i oi hi hli with ⟨o, h1, hr⟩ | ⟨h1, hge⟩
    · rcases g.r j oj hj hlj with ⟨o2, h2, _⟩ | ⟨h2, hge2⟩
      · rw [g.i i o h1, g.i j o2 h2]
        refine k.inj i j o o2 h1 h2 (hr hri) ?_ hne
        obtain ⟨o3, h3, hs, _⟩ := g.h j o2 h2
        rw [hj] at h3
        injection h3 with h3
        subst h3
        exact shape_blkd hs hlj
      · rw [g.i i o h1]
        have hl : blkd o = true := by
          obtain ⟨o3, h3, hs, _⟩ := g.h i o h1
          rw [hi] at h3; injection h3 with h3; subst h3
          exact shape_blkd hs hli
        have := RO.lt (k.obj i o h1) hl
        omega
    · rcases g.r j oj hj hlj with ⟨o2, h2, _⟩ | ⟨h2, hge2⟩
      · rw [g.i j o2 h2]
        have hl : blkd o2 = true := by
          obtain ⟨o3, h3, hs, _⟩ := g.h j o2 h2
          rw [hj] at h3; injection h3 with h3; subst h3
          exact shape_blkd hs hlj
        have := RO.lt (k.obj j o2 h2) hl
        omega
      · exact g.u i j oi oj hi hj h1 h2 hne
  out i o h hr := by
    rw [g.D]
    rcases g.r i o h (rw_blkd hr) with ⟨o2, h2, hr2⟩ | ⟨_, hge⟩
    · rw [g.i i o2 h2]; exact k.out i o2 h2 (hr2 hr)
    · intro hd
      have := k.dom _ hd
      omega
  dom b h := by rw [g.D] at h; exact Nat.lt_of_lt_of_le (k.dom b h) g.size
  gl := k.gl.mono g.ev.s g.ev.c
end Go.Ve

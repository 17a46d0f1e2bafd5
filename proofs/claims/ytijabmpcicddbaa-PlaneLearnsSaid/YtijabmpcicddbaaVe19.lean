/- The evaluator ("VE"): what comes in: the data that is read, as what never changes. -/
import Derived.Test.YtijabmpcicddbaaVe18
import Derived.ProofKit
import Derived.OpenShut
import Derived.JoinedCond
set_option linter.unusedVariables false
set_option linter.unusedSimpArgs false
namespace Go.Ve
section
variable {H : Type}

def dint : DataW H → Int
  | .lit (.int _ n) => n
  | _ => 0
def dbool : DataW H → Bool
  | .lit (.bool b) => b
  | _ => false
def dstr : DataW H → ByteArray
  | .lit (.string l) => ⟨l.toArray⟩
  | _ => ⟨#[]⟩
def dsub : DataW H → Nat → DataW H
  | .agg l, i => l.getD i .nil
  | _, _ => .nil
def dlen : DataW H → Nat
  | .slice l _ => l.length
  | _ => 0
def delem : DataW H → Nat → DataW H
  | .slice l _, j => l.getD j .nil
  | _, _ => .nil
def dnil : DataW H → Bool
  | .nil => true
  | _ => false

def fieldsAt {α : Type} (g : Nat → Nat → List α) : Nat → List Field → List α
  | _, [] => []
  | i, f :: r => g i f.type ++ fieldsAt g (i + 1) r
def timesAt {α : Type} (g : Nat → List α) : Nat → Nat → List α
  | _, 0 => []
  | i, n + 1 => g i ++ timesAt g (i + 1) n
def kApp : CK → CK → CK
  | .nil, y => y
  | .any r, y => .any (kApp r y)
  | .int k r, y => .int k (kApp r y)
  | .bool r, y => .bool (kApp r y)
  | .str r, y => .str (kApp r y)
  | .sl a e r, y => .sl a e (kApp r y)
def kFields (g : Nat → CK) : List Field → CK
  | [] => .nil
  | f :: r => kApp (g f.type) (kFields g r)
def kTimes (k : CK) : Nat → CK
  | 0 => .nil
  | n + 1 => kApp k (kTimes k n)
/-- what a type's cells are -/
def ckT (P : Program) : Nat → Nat → CK
  | 0, _ => .nil
  | n + 1, t => match P.underlying t with
    | some .bool => .bool .nil
    | some (.int k) => .int k .nil
    | some .string => .str .nil
    | some (.struct fs) => kFields (ckT P n) fs.toList
    | some (.array m e) => kTimes (ckT P n e) m
    | some (.slice e) => .sl (ckT P n e) (P.cellsOf e) .nil
    | _ => .nil
/-- a value's cells, from its data -/
def tpv (P : Program) : Nat → Nat → DataW H → List PV
  | 0, _, _ => []
  | n + 1, t, d => match P.underlying t with
    | some .bool => [.val (.bool (dbool d))]
    | some (.int k) => [.val (.int k (dint d))]
    | some .string => [.val (.string (dstr d))]
    | some (.struct fs) => fieldsAt (fun i u => tpv P n u (dsub d i)) 0 fs.toList
    | some (.array m e) => timesAt (fun i => tpv P n e (dsub d i)) 0 m
    | some (.slice e) => [.sl (dnil d) (ckT P n e) (P.cellsOf e) (dlen d) (fun j c => (tpv P n e (delem d j)).getD c (.val undef))]
    | _ => []

def contB (P : Program) : Nat → Nat → List Field → Bool
  | off, tot, [] => Nat.beq off tot
  | off, tot, f :: r => Nat.beq f.offset off && contB P (off + P.cellsOf f.type) tot r
/-- a type whose values can come in so -/
def entryB (P : Program) : Nat → Nat → Bool
  | 0, _ => false
  | n + 1, t => match P.underlying t with
    | some .bool | some .string => Nat.beq (P.cellsOf t) 1
    | some (.int _) => Nat.beq (P.cellsOf t) 1
    | some (.struct fs) => contB P 0 (P.cellsOf t) fs.toList && fs.toList.all fun f => entryB P n f.type
    | some (.array m e) => entryB P n e && Nat.beq (m * P.cellsOf e) (P.cellsOf t)
    | some (.slice e) => entryB P n e && Nat.ble 1 (P.cellsOf e) && Nat.beq (P.cellsOf t) 1
    | _ => false

/-- what is known of what came in -/
inductive PvOk : PV → Prop where
  | int {k n} : k.min ≤ n → n ≤ k.max → PvOk (.val (.int k n))
  | bool {b} : PvOk (.val (.bool b))
  | str {s : ByteArray} : s.size ≤ maxLen → PvOk (.val (.string s))
  | nil : PvOk (.val (.slice none 0 0))
  | sl {nl k esz n f} : n ≤ maxLen → (nl = true → n = 0) → (∀ j, j < n → ∀ c, c < esz → PvOk (f j c)) → PvOk (.sl nl k esz n f)

/-- kinds and cells, one by one -/
inductive KL : CK → List PV → Prop where
  | nil : KL .nil []
  | cons {k p l} : ckOk k p → k ≠ .nil → KL (kTail k) l → KL k (p :: l)
theorem KL.app {k k' : CK} {l l' : List PV} (h : KL k l) (h' : KL k' l') : KL (kApp k k') (l ++ l') := by
  induction h with
  | nil => exact h'
  | @cons k p l h1 h2 h3 ih =>
    refine .cons ?_ ?_ ?_
    · cases k <;> first | exact h1 | exact absurd rfl h2
    · cases k <;> simp [kApp] at h2 ⊢
    · cases k <;> first | exact ih | exact absurd rfl h2
theorem KL.get {k : CK} {l : List PV} (h : KL k l) : ∀ c, ckOk (kDrop k c) (l.getD c (.val undef)) := by
  induction h with
  | nil => intro c; rw [kDrop_nil]; trivial
  | cons h1 h2 h3 ih =>
    intro c
    cases c with
    | zero => exact h1
    | succ c => rw [kDrop_succ]; exact ih c
theorem KL.fields {H : Type} {g : Nat → CK} {q : Nat → Nat → List PV} (h : ∀ i t, KL (g t) (q i t)) : ∀ (l : List Field) (i : Nat), KL (kFields g l) (fieldsAt q i l)
  | [], i => .nil
  | f :: r, i => KL.app (h i f.type) (KL.fields (H := H) h r (i + 1))
theorem KL.times {H : Type} {k : CK} {q : Nat → List PV} (h : ∀ i, KL k (q i)) : ∀ (n i : Nat), KL (kTimes k n) (timesAt q i n)
  | 0, i => .nil
  | n + 1, i => KL.app (h i) (KL.times (H := H) h n (i + 1))
theorem tpv_kinds {P : Program} : ∀ (n t : Nat) (d : DataW H), KL (ckT P n t) (tpv P n t d)
  | 0, t, d => .nil
  | n + 1, t, d => by
    simp only [ckT, tpv]
    split
    · exact .cons ⟨_, rfl⟩ (by simp) .nil
    · exact .cons ⟨_, rfl⟩ (by simp) .nil
    · exact .cons ⟨_, rfl⟩ (by simp) .nil
    · exact KL.fields (H := H) (fun i t => tpv_kinds n t _) _ _
    · exact KL.times (H := H) (fun i => tpv_kinds n _ _) _ _
    · exact .cons (.inr ⟨_, _, _, rfl⟩) (by simp) .nil
    · exact .nil

theorem mapM_some {α β : Type} {f : α → Option β} : ∀ {l : List α} {r : List β}, l.mapM f = some r → RL (fun a b => f a = some b) l r
  | [], r, h => by simp at h; subst h; exact .nil
  | a :: l, r, h => by
    rw [List.mapM_cons] at h
    cases h1 : f a with
    | none => simp [h1] at h
    | some b =>
      simp only [h1, Option.bind_eq_bind, Option.bind_some] at h
      obtain ⟨r', hr, e⟩ := Option.bind_eq_some_iff.1 h
      injection e with e
      subst e
      exact .cons h1 (mapM_some hr)

variable {enc : TypeId × Value → H} {P : Program} {w : World} {base : Nat} {spare : Nat → Bool} {held : Bool}

abbrev Old (w : World) (b : Nat) : Prop := b < w.heap.size

theorem cells_spec {a : Addr} {n : Nat} {cs : List Value} (h : w.cells? base a n = some cs) : cs.length = n ∧ ∀ (j : Nat) (y : Value), cs[j]? = some y → w.cell? (a.add j) = some y := by
  unfold World.cells? at h
  split at h
  · have hl := mapM_some h
    refine ⟨by rw [← hl.length]; simp, fun j y hy => ?_⟩
    obtain ⟨i, hi, hr⟩ := hl.get' hy
    have : i = j := by
      have hj := (List.getElem?_eq_some_iff.1 hi).1
      rw [List.getElem?_range (by simpa using hj)] at hi
      exact (Option.some.inj hi).symm
    subst this
    exact hr
  · cases h
theorem cell_plain {a : Addr} {y : Value} (h : w.cell? a = some y) : a = ⟨a.block, a.off, none⟩ ∧ a.block < w.heap.size := by
  obtain ⟨b, o, s⟩ := a
  have hs := World.cell?_spot h
  simp only at hs
  subst hs
  refine ⟨rfl, ?_⟩
  unfold World.cell? at h
  cases hb : w.heap[b]? with
  | none => simp only [hb] at h; cases h
  | some o => exact (Array.getElem?_eq_some_iff.1 hb).1

theorem RL.of_mem {α β : Type} {R : α → β → Prop} {Q : α → Prop} {l : List α} {r : List β} (h : RL R l r) (hq : ∀ a b, R a b → Q a) : ∀ a, a ∈ l → Q a := by
  induction h with
  | nil => intro a ha; simp at ha
  | cons h1 _ ih =>
    intro a ha
    rcases List.mem_cons.1 ha with rfl | ha
    · exact hq _ _ h1
    · exact ih a ha

abbrev RPO (w : World) (p : PV) (x : Value) : Prop := RP (Old w) w p x ∧ PvOk p

theorem fields_rel {n : Nat} {cs : List Value} (ih : ∀ (t : Nat) (cs : List Value) (d : DataW H) (ps : List MemPlace) (fuel : Nat), entryB P n t = true → DataW.trod enc P w base spare held fuel t cs = some (d, ps) → RL (RPO w) (tpv P n t d) cs) {fuel tot : Nat} {ds : List (DataW H)} :
    ∀ {fs : List Field} {xs : List (DataW H × List MemPlace)} {off i : Nat}, contB P off tot fs = true → (∀ f, f ∈ fs → entryB P n f.type = true) → cs.length = tot →
      fs.mapM (fun f => DataW.trod enc P w base spare held fuel f.type ((cs.drop f.offset).take (P.cellsOf f.type))) = some xs → (∀ (j : Nat) (x : DataW H × List MemPlace), xs[j]? = some x → ds.getD (i + j) .nil = x.1) →
      (∀ f, f ∈ fs → f.offset + P.cellsOf f.type ≤ tot) → RL (RPO w) (fieldsAt (fun i u => tpv P n u (dsub (.agg ds) i)) i fs) (cs.drop off)
  | [], xs, off, i, hc, _, hl, _, _, _ => by
    simp only [contB] at hc
    have := Nat.eq_of_beq_eq_true hc
    rw [List.drop_of_length_le (by omega)]
    exact .nil
  | f :: r, xs, off, i, hc, he, hl, hx, hd, hle => by
    simp only [contB, Bool.and_eq_true] at hc
    have ho := Nat.eq_of_beq_eq_true hc.1
    have hxl := mapM_some hx
    cases hxl with
    | cons h1 h2 =>
      rename_i x xs'
      have hx' : r.mapM (fun f => DataW.trod enc P w base spare held fuel f.type ((cs.drop f.offset).take (P.cellsOf f.type))) = some xs' := by
        rw [List.mapM_cons] at hx
        simp only [h1, Option.bind_eq_bind, Option.bind_some] at hx
        obtain ⟨r', hr, e⟩ := Option.bind_eq_some_iff.1 hx
        injection e with e
        injection e with _ e
        subst e
        exact hr
      have hd0 : ds.getD i .nil = x.1 := hd 0 x (by simp)
      have hf := ih f.type _ x.1 x.2 fuel (he f (by simp)) h1
      have hr := fields_rel ih (i := i + 1) hc.2 (fun g hg => he g (by simp [hg])) hl hx' (fun j y hy => by rw [show i + 1 + j = i + (j + 1) by omega]; exact hd (j + 1) y (by simpa using hy)) (fun g hg => hle g (by simp [hg]))
      simp only [fieldsAt, dsub, hd0]
      have hsplit : cs.drop off = (cs.drop f.offset).take (P.cellsOf f.type) ++ cs.drop (off + P.cellsOf f.type) := by
        rw [ho, ← List.drop_drop, List.take_append_drop]
      rw [hsplit]
      exact hf.append hr
theorem times_rel {n e s : Nat} {cs : List Value} {g : Nat → List PV} : ∀ {m i : Nat}, (∀ j, j < m → RL (RPO w) (g (i + j)) ((cs.drop ((i + j) * s)).take s)) → cs.length = (i + m) * s → RL (RPO w) (timesAt g i m) (cs.drop (i * s))
  | 0, i, _, hl => by
    rw [List.drop_of_length_le (by rw [hl]; simp)]
    exact .nil
  | m + 1, i, h, hl => by
    have h0 := h 0 (by omega)
    simp only [Nat.add_zero] at h0
    have hr := times_rel (n := n) (e := e) (s := s) (cs := cs) (g := g) (m := m) (i := i + 1) (fun j hj => by rw [show i + 1 + j = i + (j + 1) by omega]; exact h (j + 1) (by omega)) (by rw [hl]; congr 1; omega)
    simp only [timesAt]
    have hsplit : cs.drop (i * s) = (cs.drop (i * s)).take s ++ cs.drop ((i + 1) * s) := by
      rw [Nat.add_mul, Nat.one_mul, ← List.drop_drop, List.take_append_drop]
    rw [hsplit]
    exact h0.append hr

theorem contB_le : ∀ {fs : List Field} {off tot : Nat}, contB P off tot fs = true → off ≤ tot ∧ ∀ f, f ∈ fs → f.offset + P.cellsOf f.type ≤ tot
  | [], off, tot, h => ⟨by have := Nat.eq_of_beq_eq_true h; omega, fun f hf => by simp at hf⟩
  | f :: r, off, tot, h => by
    simp only [contB, Bool.and_eq_true] at h
    have ho := Nat.eq_of_beq_eq_true h.1
    obtain ⟨h1, h2⟩ := contB_le h.2
    refine ⟨by omega, fun g hg => ?_⟩
    rcases List.mem_cons.1 hg with rfl | hg
    · omega
    · exact h2 g hg

/-- THE DATA AND THE CELLS. -/
theorem entry_cells : ∀ (n t : Nat) (cs : List Value) (d : DataW H) (ps : List MemPlace) (fuel : Nat), entryB P n t = true → DataW.trod enc P w base spare held fuel t cs = some (d, ps) → RL (RPO w) (tpv P n t d) cs
  | 0, t, cs, d, ps, fuel, he, _ => by cases he
  | n + 1, t, cs, d, ps, 0, he, hd => by cases hd
  | n + 1, t, cs, d, ps, fuel + 1, he, hd => by
    have ih : ∀ (t : Nat) (cs : List Value) (d : DataW H) (ps : List MemPlace) (fuel : Nat), entryB P n t = true → DataW.trod enc P w base spare held fuel t cs = some (d, ps) → RL (RPO w) (tpv P n t d) cs := fun t cs d ps fuel => entry_cells n t cs d ps fuel
    simp only [entryB] at he
    simp only [tpv]
    cases hu : P.underlying t with
    | none => simp only [hu] at he; cases he
    | some k =>
      simp only [hu] at he ⊢
      unfold DataW.trod at hd
      rw [hu] at hd
      cases k with
      | bool =>
        simp only at he hd ⊢
        split at hd
        all_goals first | contradiction | (have hne := ‹some TypeDesc.bool = some _›; cases hne; done) | skip
        · simp only [Option.some.injEq, Prod.mk.injEq] at hd
          obtain ⟨rfl, _⟩ := hd
          exact .cons ⟨⟨rfl, rfl⟩, .bool⟩ .nil
      | int k =>
        simp only at he hd ⊢
        split at hd
        all_goals first | contradiction | (have hne := ‹some (TypeDesc.int k) = some _›; cases hne; done) | skip
        · rename_i hk
          injection hk with hk
          injection hk with hk
          subst hk
          split at hd
          · rename_i hc
            obtain ⟨rfl, hw⟩ := hc
            simp only [Option.some.injEq, Prod.mk.injEq] at hd
            obtain ⟨rfl, _⟩ := hd
            simp only [Lit.wf, Bool.and_eq_true, decide_eq_true_eq] at hw
            exact .cons ⟨⟨rfl, rfl⟩, .int hw.1 hw.2⟩ .nil
          · cases hd
      | string =>
        simp only at he hd ⊢
        split at hd
        all_goals first | contradiction | (have hne := ‹some TypeDesc.string = some _›; cases hne; done) | skip
        · split at hd
          · rename_i hc
            simp only [Option.some.injEq, Prod.mk.injEq] at hd
            obtain ⟨rfl, _⟩ := hd
            exact .cons ⟨⟨by simp [dstr], rfl⟩, .str (by simpa [dstr] using hc)⟩ .nil
          · cases hd
      | struct fs =>
        simp only [Bool.and_eq_true] at he
        have hd : (if cs.length = P.cellsOf t then (fs.toList.mapM fun f => DataW.trod enc P w base spare held fuel f.type ((cs.drop f.offset).take (P.cellsOf f.type))).map fun xs => (DataW.agg (xs.map (·.1)), xs.flatMap (·.2)) else none) = some (d, ps) := by
          rw [← hd]
        split at hd
        · rename_i hl
          obtain ⟨xs, hxs, e⟩ := Option.map_eq_some_iff.1 hd
          simp only [Prod.mk.injEq] at e
          obtain ⟨rfl, _⟩ := e
          have := fields_rel ih (fuel := fuel) (ds := xs.map (·.1)) (fs := fs.toList) (xs := xs) (off := 0) (i := 0) he.1 (fun f hf => List.all_eq_true.1 he.2 f hf) hl hxs (fun j x hx => by simp [List.getD, hx]) (contB_le he.1).2
          simpa using this
        · cases hd
      | array m e =>
        simp only [Bool.and_eq_true] at he
        have hd : (if cs.length = P.cellsOf t then ((List.range m).mapM fun i => DataW.trod enc P w base spare held fuel e ((cs.drop (i * P.cellsOf e)).take (P.cellsOf e))).map fun xs => (DataW.agg (xs.map (·.1)), xs.flatMap (·.2)) else none) = some (d, ps) := by
          rw [← hd]
        split at hd
        · rename_i hl
          obtain ⟨xs, hxs, e'⟩ := Option.map_eq_some_iff.1 hd
          simp only [Prod.mk.injEq] at e'
          obtain ⟨rfl, _⟩ := e'
          have hms := mapM_some hxs
          have := times_rel (w := w) (n := n) (e := e) (s := P.cellsOf e) (cs := cs) (g := fun i => tpv P n e (dsub (.agg (xs.map (·.1))) i)) (m := m) (i := 0) (fun j hj => by
            obtain ⟨x, hx, hr⟩ := hms.get (i := j) (a := j) (List.getElem?_range hj)
            simp only [Nat.zero_add]
            have e1 : dsub (.agg (xs.map (·.1))) j = x.1 := by simp [dsub, List.getD, hx]
            rw [e1]
            exact ih e _ x.1 x.2 fuel he.1 hr) (by rw [hl, Nat.zero_add]; exact (Nat.eq_of_beq_eq_true he.2).symm)
          simpa using this
        · cases hd
      | slice e =>
        simp only [Bool.and_eq_true] at he
        obtain ⟨⟨he1, he2⟩, _⟩ := he
        have hpos := Nat.le_of_ble_eq_true he2
        simp only at hd
        split at hd
        all_goals first | contradiction | (have hne := ‹some (TypeDesc.slice e) = some _›; cases hne; done) | skip
        · simp only [Option.some.injEq, Prod.mk.injEq] at hd
          obtain ⟨rfl, _⟩ := hd
          exact .cons ⟨⟨fun j hj => absurd hj (by simp [dlen]), none, 0, rfl, Nat.le_refl _, rfl, fun _ => ⟨rfl, rfl⟩, fun h0 => absurd h0 (by simp [dlen])⟩, .sl (by simp [dlen]) (fun _ => rfl) fun j hj => absurd hj (by simp [dlen])⟩ .nil
        · rename_i e' a len cap hk
          injection hk with hk
          injection hk with hk
          subst hk
          split at hd
          · rename_i hc
            obtain ⟨elems, h1, h2⟩ := Option.bind_eq_some_iff.1 hd
            obtain ⟨rest, h3, h4⟩ := Option.map_eq_some_iff.1 h2
            simp only [Prod.mk.injEq] at h4
            obtain ⟨rfl, _⟩ := h4
            have hms := mapM_some h1
            have hlen : elems.length = len := by rw [← hms.length]; simp
            have hel : ∀ j, j < len → ∃ xcs, w.cells? base (a.add (j * P.cellsOf e)) (P.cellsOf e) = some xcs ∧ RL (RPO w) (tpv P n e (delem (.slice (elems.map (·.1)) (rest.map (·.1))) j)) xcs := by
              intro j hj
              obtain ⟨x, hx, hr⟩ := hms.get (i := j) (a := j) (List.getElem?_range hj)
              obtain ⟨xcs, g1, g2⟩ := Option.bind_eq_some_iff.1 hr
              refine ⟨xcs, g1, ?_⟩
              have e1 : delem (.slice (elems.map (·.1)) (rest.map (·.1))) j = x.1 := by simp [delem, List.getD, hx]
              rw [e1]
              exact ih e _ x.1 x.2 fuel he1 g2
            have hcell : ∀ j, j < len → ∀ c, c < P.cellsOf e → ∃ y, w.cell? ⟨a.block, a.off + j * P.cellsOf e + c, none⟩ = some y ∧ a = ⟨a.block, a.off, none⟩ ∧ a.block < w.heap.size ∧ RPO w ((tpv P n e (delem (.slice (elems.map (·.1)) (rest.map (·.1))) j)).getD c (.val undef)) y := by
              intro j hj c hc
              obtain ⟨xcs, g1, g2⟩ := hel j hj
              obtain ⟨g3, g4⟩ := cells_spec g1
              have hlt : c < xcs.length := by omega
              have hy := g4 c xcs[c] (by simp [hlt])
              rw [add_add] at hy
              have hsp : a = ⟨a.block, a.off, none⟩ := by
                obtain ⟨xcs0, q1, q2⟩ := hel 0 (by omega)
                obtain ⟨q3, q4⟩ := cells_spec q1
                have hy0 := q4 0 xcs0[0] (by simp)
                rw [Nat.zero_mul, add_add, Nat.add_zero, show a.add 0 = a by simp [Addr.add]] at hy0
                exact (cell_plain hy0).1
              obtain ⟨p1, p2⟩ := cell_plain hy
              rw [hsp, add_plain] at hy p2
              obtain ⟨p, hp, hr⟩ := g2.get' (i := c) (b := xcs[c]) (by simp [hlt])
              refine ⟨xcs[c], by rw [← hy]; congr 2; omega, hsp, p2, ?_⟩
              have : (tpv P n e (delem (.slice (elems.map (·.1)) (rest.map (·.1))) j)).getD c (.val undef) = p := by simp [List.getD, hp]
              rw [this]
              exact hr
            have hdl : dlen (.slice (elems.map (·.1)) (rest.map (·.1)) : DataW H) = len := by simp [dlen, hlen]
            simp only [dnil, hdl]
            refine .cons ⟨⟨fun j hj c => (tpv_kinds n e _).get c, some a, cap, rfl, hc.2.1, rfl, fun h => (by cases h), fun h0 => ?_⟩, .sl (by omega) (fun h => (by cases h)) fun j hj c hcc => ?_⟩ .nil
            · obtain ⟨_, _, hsp, hb, _⟩ := hcell 0 h0 0 (by omega)
              refine ⟨a.block, a.off, by rw [← hsp], hb, fun j hj c hcc => ?_⟩
              obtain ⟨y, g1, _, _, g2⟩ := hcell j hj c hcc
              exact ⟨y, g1, g2.1⟩
            · obtain ⟨y, _, _, _, g2⟩ := hcell j hj c hcc
              exact g2.2
          · cases hd
      | _ => cases he
end
end Go.Ve

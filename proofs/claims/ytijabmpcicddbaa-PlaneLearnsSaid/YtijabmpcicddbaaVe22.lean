/- The evaluator ("VE"): functions that are told by a summary, loops that are told by one. -/
import Derived.Test.YtijabmpcicddbaaVe21
set_option linter.unusedVariables false
namespace Go.Ve
abbrev FK := (AV → List AObj → Option Out)
abbrev Sm := List AV → List AObj → Option (FK → Option Out)
abbrev Hk := St → Option (Kont → Option Out)
abbrev Blk := Nat → Option Hk
def noBlk : Blk := fun _ => none
/-- the hooks of functions, by their numbers -/
abbrev Hooks := List (Nat × List (Nat × Hk))
def blkOf (B : Hooks) (f : Nat) : Blk := match aget B f with
  | some l => fun id => aget l id
  | none => noBlk
/-- how functions are gone through: which only read what they are handed; which trim what they hand back -/
structure Opts where
  bor : Nat → Bool := fun _ => false
  trim : Nat → Bool := fun _ => false
  phr : Bool := false
/-- the program's functions, each by its summary, or by its code, so deep -/
noncomputable def runS (tt : Nat → Option TD) (eqs : Nat → Bool) (funcs : Array Func) (fuel : Nat) (S : List (Nat × Sm)) (B : Hooks) (O : Opts) (d : Nat) : VCall :=
  Nat.rec (fun _ _ _ _ => none) (fun _ (ih : VCall) f args hs k => match (aget S f).bind fun g => g args hs with
    | some G => G k
    | none => match funcs[f]? with
      | some fn => enter { tt, eqs, call := ih, fuel, blk := blkOf B f, bor := O.bor, trim := O.trim f, phr := O.phr } fn args hs k
      | none => none) d
def CallAt (P : Program) (f : Nat) (args : List AV) (hs : List AObj) (G : FK → Option Out) : Prop := ∀ k r, G k = some r → ∃ v os, k v os = some r ∧ (∀ k', G k' = k' v os) ∧ CallOk P f args hs v os
def SumOk (P : Program) (f : Nat) (g : Sm) : Prop := ∀ args hs G, g args hs = some G → CallAt P f args hs G
def SumsOk (P : Program) (S : List (Nat × Sm)) : Prop := ∀ f g, aget S f = some g → SumOk P f g
def HooksOk (P : Program) (B : Hooks) : Prop := ∀ f l, aget B f = some l → ∀ fn c, P.funcs[f]? = some fn → fn.body = some c → Hooked P (fun id => aget l id) c
theorem sums_nil {P : Program} : SumsOk P [] := fun f g h => by cases h
theorem hooks_nil {P : Program} : HooksOk P [] := fun f g h => by cases h
theorem sums_cons {P : Program} {f : Nat} {g : Sm} {S : List (Nat × Sm)} (h : SumOk P f g) (hs : SumsOk P S) : SumsOk P ((f, g) :: S) := by
  intro f' g' hg
  simp only [aget] at hg
  by_cases hf : f' = f
  · subst hf; rw [Nat.beq_refl, cond_true] at hg; injection hg with hg; subst hg; exact h
  · rw [beq_false hf, cond_false] at hg; exact hs f' g' hg
theorem hooks_cons {P : Program} {f : Nat} {l : List (Nat × Hk)} {B : Hooks} (h : ∀ fn c, P.funcs[f]? = some fn → fn.body = some c → Hooked P (fun id => aget l id) c) (hs : HooksOk P B) : HooksOk P ((f, l) :: B) := by
  intro f' g' hg
  simp only [aget] at hg
  by_cases hf : f' = f
  · subst hf; rw [Nat.beq_refl, cond_true] at hg; injection hg with hg; subst hg; exact h
  · rw [beq_false hf, cond_false] at hg; exact hs f' g' hg
theorem blkOf_ok {P : Program} {B : Hooks} (hB : HooksOk P B) {f : Nat} {fn : Func} (hf : P.funcs[f]? = some fn) : ∀ c, fn.body = some c → Hooked P (blkOf B f) c := by
  intro c hc
  unfold blkOf
  split
  · rename_i l hl; exact hB f l hl fn c hf hc
  · exact hooked_none c
theorem runS_ok {P : Program} {tt : Nat → Option TD} (hT : TT P tt) {eqs : Nat → Bool} (hE : EqOk P tt eqs) (hM : P.follows .mixedOrders = true) (hN : ∀ (f : Nat) (fn : Func), P.funcs[f]? = some fn → (fn.name == "runtime.NumGoroutine") = false) {fuel : Nat} {S : List (Nat × Sm)} (hS : SumsOk P S) {B : Hooks} (hB : HooksOk P B) (O : Opts) :
    ∀ d, CallSem P (runS tt eqs P.funcs fuel S B O d)
  | 0 => fun f args hs k r h => by cases h
  | d + 1 => fun f args hs k r h => by
    have ih := runS_ok hT hE hM hN (fuel := fuel) hS hB O d
    have hd : ∀ k', runS tt eqs P.funcs fuel S B O (d + 1) f args hs k' = match (aget S f).bind fun g => g args hs with
      | some G => G k'
      | none => match P.funcs[f]? with
        | some fn => enter { tt, eqs, call := runS tt eqs P.funcs fuel S B O d, fuel, blk := blkOf B f, bor := O.bor, trim := O.trim f, phr := O.phr } fn args hs k'
        | none => none := fun _ => rfl
    rw [hd] at h
    cases hg : (aget S f).bind fun g => g args hs with
    | some G =>
      rw [hg] at h
      obtain ⟨g, hg1, hg2⟩ := Option.bind_eq_some_iff.1 hg
      obtain ⟨v, os, h1, h2, h3⟩ := hS f g hg1 args hs G hg2 k r h
      exact ⟨v, os, h1, fun k' => by rw [hd, hg]; exact h2 k', h3⟩
    | none =>
      rw [hg] at h
      simp only at h
      split at h
      · rename_i fn hf
        obtain ⟨v, os, h1, h2, h3⟩ := enter_ok (C := { tt, eqs, call := runS tt eqs P.funcs fuel S B O d, fuel, blk := blkOf B f, bor := O.bor, trim := O.trim f, phr := O.phr }) ⟨hT, hE, ih⟩ hM hf (blkOf_ok hB hf) (hN f fn hf) h
        exact ⟨v, os, h1, fun k' => by rw [hd, hg]; simp only [hf]; exact h2 k', h3⟩
      · cases h
theorem callAt_of {P : Program} {f : Nat} {call : VCall} (hc : CallSem P call) {args : List AV} {hs : List AObj} {G : FK → Option Out} (h : ∀ k, call f args hs k = G k) : CallAt P f args hs G := by
  intro k r hg
  obtain ⟨v, os, h1, h2, h3⟩ := hc f args hs k r (by rw [h]; exact hg)
  exact ⟨v, os, h1, fun k' => by rw [← h]; exact h2 k', h3⟩
/-- a function without arguments that answers true -/
def yes : Sm := fun args hs => match args, hs with
  | [], [] => some fun k => k (.b true) []
  | _, _ => none
theorem SumOk.yes {P : Program} {f : Nat} {call : VCall} (hc : CallSem P call) (h : ∀ k, call f [] [] k = k (.b true) []) : SumOk P f yes := by
  intro args hs G hG
  unfold Ve.yes at hG
  split at hG
  · injection hG with hG
    subst hG
    exact callAt_of hc h
  · cases hG

/-! ### loops -/
def HkOk (P : Program) (c : Code) (g : Hk) : Prop := ∀ st G, g st = some G → BodyAt P c st G
/-- all blocks of a code, by their numbers -/
def seqKeys (b : Code) : Code → List (Nat × Code)
  | .region id ops d => [(1000000 + id, .seq (.region id ops d) b)]
  | _ => []
/-- all blocks of a code, by their numbers, and all sequences that begin with a region -/
def blocks : Code → List (Nat × Code)
  | .seq a b => seqKeys b a ++ (blocks a ++ blocks b)
  | .cond _ a b => blocks a ++ blocks b
  | .block id c => (id, .block id c) :: blocks c
  | .loop c => blocks c
  | _ => []
def nodupB : List Nat → Bool
  | [] => true
  | x :: l => !has l x && nodupB l
theorem aget_mem {α : Type} : ∀ {l : List (Nat × α)} {x : Nat} {v : α}, nodupB (keysOf l) = true → (x, v) ∈ l → aget l x = some v
  | (y, u) :: l, x, v, hn, hm => by
    simp only [keysOf, nodupB, Bool.and_eq_true, Bool.not_eq_true'] at hn
    simp only [aget]
    rcases List.mem_cons.1 hm with e | hm
    · injection e with e1 e2; subst e1; subst e2; rw [Nat.beq_refl, cond_true]
    · have hne : x ≠ y := by
        intro e
        subst e
        have : has (keysOf l) x = true := has_iff.2 (mem_keys.2 ⟨(x, v), by assumption, rfl⟩)
        rw [hn.1] at this
        cases this
      rw [beq_false hne, cond_false]
      exact aget_mem hn.2 hm
theorem hooked_mem {P : Program} {blk : Blk} : ∀ c : Code, (∀ id c', (id, c') ∈ blocks c → ∀ g, blk id = some g → HkOk P c' g) → Hooked P blk c := by
  intro c
  induction c with
  | seq a b iha ihb =>
    intro h
    refine ⟨?_, iha fun id c' hm => h id c' (List.mem_append_right _ (List.mem_append_left _ hm)), ihb fun id c' hm => h id c' (List.mem_append_right _ (List.mem_append_right _ hm))⟩
    intro g hg
    cases a with
    | region id ops d => exact h (1000000 + id) _ (List.mem_append_left _ (List.mem_cons_self ..)) g hg
    | _ => cases hg
  | cond d a b iha ihb => exact fun h => ⟨iha fun id c' hm => h id c' (List.mem_append_left _ hm), ihb fun id c' hm => h id c' (List.mem_append_right _ hm)⟩
  | block id c ih => exact fun h => ⟨h id _ (List.mem_cons_self ..), ih fun id' c' hm => h id' c' (List.mem_cons_of_mem _ hm)⟩
  | loop c ih => exact fun h => ih h
  | _ => exact fun _ => trivial
/-- the code of a function's block -/
def codeAt (fn : Func) (id : Nat) : Code := match fn.body with
  | some c => (aget (blocks c) id).getD .skip
  | none => .skip
def blocksB (fn : Func) : Bool := match fn.body with
  | some c => nodupB (keysOf (blocks c))
  | none => true
theorem hooked_of {P : Program} {blk : Blk} {fn : Func} (hn : blocksB fn = true) (h : ∀ id g, blk id = some g → HkOk P (codeAt fn id) g) : ∀ c, fn.body = some c → Hooked P blk c := by
  intro c hc
  refine hooked_mem c fun id c' hm g hg => ?_
  have := h id g hg
  unfold codeAt at this
  unfold blocksB at hn
  rw [hc] at this hn
  simp only at this hn
  rw [aget_mem hn hm] at this
  exact this
/-- the inner blocks of a block -/
theorem hooked_in {P : Program} {blk : Blk} {fn : Func} (hn : blocksB fn = true) (h : ∀ id g, blk id = some g → HkOk P (codeAt fn id) g) (id : Nat) : Hooked P blk (codeAt fn id) := by
  unfold codeAt
  cases hb : fn.body with
  | none => exact trivial
  | some c =>
    have hH := hooked_of hn h c hb
    simp only
    cases ha : aget (blocks c) id with
    | none => exact trivial
    | some c' =>
      have key : ∀ (c : Code), Hooked P blk c → ∀ id c', (id, c') ∈ blocks c → Hooked P blk c' := by
        intro c
        induction c with
        | seq a b iha ihb =>
          intro hH id c' hm
          rcases List.mem_append.1 hm with hm | hm
          · cases a with
            | region id0 ops d =>
              rcases List.mem_cons.1 hm with e | hm
              · injection e with e1 e2; subst e2; exact hH
              · cases hm
            | _ => cases hm
          · exact (List.mem_append.1 hm).elim (iha hH.2.1 id c') (ihb hH.2.2 id c')
        | cond d a b iha ihb => exact fun hH id c' hm => (List.mem_append.1 hm).elim (iha hH.1 id c') (ihb hH.2 id c')
        | block id0 c0 ih =>
          intro hH id c' hm
          rcases List.mem_cons.1 hm with e | hm
          · injection e with e1 e2; subst e1; subst e2; exact hH
          · exact ih hH.2 id c' hm
        | loop c ih => exact ih
        | _ => exact fun _ id c' hm => by cases hm
      have mem_of : ∀ {l : List (Nat × Code)} {x : Nat} {v : Code}, aget l x = some v → (x, v) ∈ l := by
        intro l
        induction l with
        | nil => intro x v h; cases h
        | cons p l ih =>
          obtain ⟨y, u⟩ := p
          intro x v h
          simp only [aget] at h
          by_cases hxy : x = y
          · subst hxy; rw [Nat.beq_refl, cond_true] at h; injection h with h; subst h; exact List.mem_cons_self ..
          · rw [beq_false hxy, cond_false] at h; exact List.mem_cons_of_mem _ (ih h)
      exact key c hH id c' (mem_of ha)

/-- what comes behind a told block: the state, made small -/
def kn (lo : Vx → List Nat) (k : Kont) : Kont := fun e st => match norm (lo e) st with
  | some st' => k e st'
  | none => none
def loopK (id : Nat) (k : Kont) : Kont := fun e st => match e with
  | .exit j => bif Nat.beq j id then k .normal st else k (.exit j) st
  | e => k e st
theorem bodyAt_of {P : Program} {C : Ctx} (hC : CtxOk P C) (hM : P.follows .mixedOrders = true) {c : Code} (hH : Hooked P C.blk c) {lo : Vx → List Nat} {st : St} {G : Kont → Option Out} (h : ∀ k, exec C c st (kn lo k) = G k) : BodyAt P c st G := by
  intro k r hg
  obtain ⟨e, st1, h1, h2, h3, h4, h5⟩ := exec_ok hC hM c hH st (kn lo k) r (by rw [h]; exact hg)
  unfold kn at h1
  split at h1
  · rename_i st2 hn
    obtain ⟨n1, n2, n3⟩ := norm_ok hn
    refine ⟨e, st2, h1, fun k' => ?_, n1.trans h3, n2.trans h4, fun E a Q hS hQ => h5 E a Q hS fun E' a' hS' hev => ?_⟩
    · rw [← h, h2]
      simp only [kn, hn]
    · obtain ⟨E2, w2, hS2, hev2⟩ := n3 E' a' hS'
      rw [← w2]
      exact hQ E2 a' hS2 (hev.trans (h4 ▸ hev2))
  · cases h1
/-- nil slices that become slices of their own, which have no block yet: each with its slot, its kind, its cells -/
def nilS : List (Nat × CK × Nat) → St → St
  | [], st => st
  | (t, k, e) :: r, st => match aget st.t t with
    | some (.v (.c (.pv (.val (.slice none 0 0))))) => nilS r { st with t := aput st.t t (.v (.c (.own st.nx))), h := aput st.h st.nx (phO k e), nx := st.nx + 1 }
    | _ => nilS r st
theorem nilS_ok : ∀ {l : List (Nat × CK × Nat)} {st : St} {E : Env} {a : Act}, SR E st a → ∃ E', Qt E E' ∧ SR E' (nilS l st) a ∧ (nilS l st).n = st.n ∧ (nilS l st).m = st.m
  | [], st, E, a, hS => ⟨E, ⟨hS.sf.ok, rfl, rfl, Ev.refl E⟩, hS, rfl, rfl⟩
  | (t, k, e) :: r, st, E, a, hS => by
    unfold nilS
    split
    · rename_i ht
      have hj : E.H st.nx = none := (hS.sf.h _).trans (hS.fresh _ (Nat.le_refl _))
      obtain ⟨ok1, ev1⟩ := new_ph (k := k) (e := e) hS.sf.ok hj
      have q1 : Qt E ⟨E.ι, fun x => if x = st.nx then some (phO k e) else E.H x, E.D, E.w⟩ := ⟨ok1, rfl, rfl, ev1⟩
      have hS1 : SR ⟨E.ι, fun x => if x = st.nx then some (phO k e) else E.H x, E.D, E.w⟩ { st with t := aput st.t t (.v (.c (.own st.nx))), h := aput st.h st.nx (phO k e), nx := st.nx + 1 } a := by
        refine ⟨⟨ok1, fun id => ?_, fun x av hx => ?_, hS.sf.n, hS.sf.df⟩, fun id hid => ?_⟩
        · show (if id = st.nx then _ else E.H id) = aget (aput st.h st.nx (phO k e)) id
          rw [aget_aput, hS.sf.h]
        · have hx : aget (aput st.t t (.v (.c (.own st.nx)))) x = some av := hx
          rw [aget_aput] at hx
          by_cases hxt : x = t
          · rw [if_pos hxt] at hx
            injection hx with hx
            subst hx hxt
            obtain ⟨h1, _⟩ := hS.sf.t _ _ ht
            show RC _ (.own st.nx) _
            rw [h1]
            simp only [RC, if_pos, phO]
            exact ⟨Nat.le_refl _, .inl ⟨rfl, rfl, rfl⟩⟩
          · rw [if_neg hxt] at hx
            exact RA.mono ev1 (hS.sf.t x av hx)
        · have hid : st.nx + 1 ≤ id := hid
          show aget (aput st.h st.nx (phO k e)) id = none
          rw [aget_aput, if_neg (by omega)]
          exact hS.fresh id (by omega)
      obtain ⟨E2, q2, s2, n2, m2⟩ := nilS_ok (l := r) hS1
      exact ⟨E2, q1.trans q2, s2, n2, m2⟩
    · exact nilS_ok hS
def hookG (live : List Nat) (nl : List (Nat × CK × Nat)) (F : Hk) : Hk := fun st => match norm live (nilS nl st) with
  | some st1 => F st1
  | none => none
theorem hook_ok {P : Program} {c : Code} {live : List Nat} {nl : List (Nat × CK × Nat)} {F : Hk} (h : HkOk P c F) : HkOk P c (hookG live nl F) := by
  intro st G hG
  unfold hookG at hG
  split at hG
  · rename_i st1 hn
    obtain ⟨n1, n2, n3⟩ := norm_ok hn
    have hnm : (nilS nl st).n = st.n ∧ (nilS nl st).m = st.m := by
      have : ∀ (l : List (Nat × CK × Nat)) (st : St), (nilS l st).n = st.n ∧ (nilS l st).m = st.m := by
        intro l
        induction l with
        | nil => exact fun st => ⟨rfl, rfl⟩
        | cons p l ih =>
          intro st
          obtain ⟨t, k, e⟩ := p
          unfold nilS
          split
          · exact ih _
          · exact ih _
      exact this nl st
    intro k r hg
    obtain ⟨e, st', h1, h2, h3, h4, h5⟩ := h st1 G hG k r hg
    refine ⟨e, st', h1, h2, h3.trans (n1.trans hnm.1), h4.trans (n2.trans hnm.2), fun E a Q hS hQ => ?_⟩
    obtain ⟨E0, q0, hS0, _, _⟩ := nilS_ok (l := nl) hS
    obtain ⟨E1, w1, hS1, hev1⟩ := n3 E0 a hS0
    rw [← q0.w, ← w1]
    exact h5 E1 a Q hS1 fun E' a' hS' hev' => hQ E' a' hS' ((q0.evm st.m).trans ((hnm.2 ▸ hev1).trans (hnm.2 ▸ n2 ▸ hev')))
  · cases hG
end Go.Ve

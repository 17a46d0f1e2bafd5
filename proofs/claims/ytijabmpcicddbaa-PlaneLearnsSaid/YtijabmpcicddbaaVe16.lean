/- The evaluator ("VE"): one operation of a region; regions in the text's order. -/
import Derived.Test.YtijabmpcicddbaaVe15
import Derived.Orders
set_option linter.unusedVariables false
set_option linter.unusedSimpArgs false
namespace Go.Ve

/-- the tables as functions -/
structure SF (E : Env) (T : Nat → Option AV) (H : Heap) (n : Nat) (a : Act) : Prop where
  ok : E.ok
  h : ∀ id, E.H id = H id
  t : ∀ x av, T x = some av → RA E av (a.tmps.getD x undef)
  n : a.tmps.size = n
  df : a.defers = []
structure SR (E : Env) (st : St) (a : Act) : Prop where
  sf : SF E (aget st.t) (aget st.h) st.n a
  fresh : ∀ id, st.nx ≤ id → aget st.h id = none

def guardIs (all : List Oper) (o : Oper) (T : Nat → Option AV) (res : Bool) : Prop := match o.guard with
  | none => res = true
  | some (j, want) => ∃ d, guardSlot all j = some d ∧ ((∃ b, T d = some (.b b) ∧ res = (b == want)) ∨ (T d = some (.tup []) ∧ res = false))

inductive DstW (n : Nat) : Option Tmp → Option AV → List (Nat × AV) → Prop where
  | none {v} : DstW n none v []
  | some {d v} : d < n → DstW n (some d) (some v) [(d, v)]
def dropW : Option Tmp → List (Nat × AV)
  | some d => [(d, .tup [])]
  | none => []

/-- what an operation does to the tables -/
inductive Eff1 (P : Program) (all : List Oper) (o : Oper) (st : St) : List (Nat × AV) → List (Nat × AObj) → List Nat → Nat → Prop where
  | run {t1 u tw} : guardIs all o (aget st.t) true → (∀ x, aget t1 x = aget st.t x) → OpOk P o.op t1 st.h st.nx u → DstW st.n o.dst u.v tw → Eff1 P all o st tw (u.all st.nx) u.rd u.al.length
  | skip : guardIs all o (aget st.t) false → Eff1 P all o st (dropW o.dst) [] [] 0

theorem wanted_of {ops : Array Oper} {o : Oper} {T : Nat → Option AV} {res : Bool} (hg : guardIs ops.toList o T res) {E : Env} {a : Act} (ht : ∀ j w d, o.guard = some (j, w) → guardSlot ops.toList j = some d → ∀ av, T d = some av → RA E av (a.tmps.getD d undef)) : Region.wanted o (yielded ops a.tmps) = res := by
  unfold guardIs at hg
  unfold Region.wanted
  cases hgu : o.guard with
  | none => simp only [hgu] at hg; exact hg.symm
  | some p =>
    obtain ⟨j, want⟩ := p
    simp only [hgu] at hg
    obtain ⟨d, hd, h⟩ := hg
    have hd' : (ops[j]?).bind (·.dst) = some d := by simpa [guardSlot] using hd
    show (yielded ops a.tmps j == some want) = res
    unfold yielded
    rw [hd', Option.bind_some]
    rcases h with ⟨b, h1, rfl⟩ | ⟨h1, rfl⟩
    · have hv := ht j want d hgu hd _ h1
      have hv : a.tmps.getD d undef = .bool b := hv.1
      have : a.tmps[d]? = some (.bool b) := by
        rw [Array.getD_eq_getD_getElem?] at hv
        cases hx : a.tmps[d]? with
        | none => rw [hx] at hv; cases hv
        | some x => rw [hx] at hv; simp at hv; rw [hv]
      simp only [this]
      cases b <;> cases want <;> rfl
    · obtain ⟨vs, hv, hl⟩ := ht j want d hgu hd _ h1
      rw [Array.getD_eq_getD_getElem?] at hv
      cases hx : a.tmps[d]? with
      | none => rfl
      | some x =>
        rw [hx] at hv
        simp at hv
        subst hv
        rfl

theorem getD_put {a : Act} {d : Nat} {v : Value} (x : Nat) : (a.put (some d) v).tmps.getD x undef = if x = d ∧ d < a.tmps.size then v else a.tmps.getD x undef := by
  show (a.tmps.setIfInBounds d v).getD x undef = _
  rw [Array.getD_eq_getD_getElem?, Array.getD_eq_getD_getElem?, Array.getElem?_setIfInBounds]
  by_cases h1 : x = d
  · subst h1
    by_cases h2 : x < a.tmps.size
    · simp [h2]
    · simp [h2]
  · rw [if_neg (fun e => h1 e.symm), if_neg (fun e => h1 e.1)]
theorem ra_undef (E : Env) : RA E (.tup []) undef := ⟨#[], rfl, .nil⟩
theorem sf_drop {E : Env} {T : Nat → Option AV} {H : Heap} {n : Nat} {a : Act} (h : SF E T H n a) (dst : Option Tmp) : SF E (foldA T (dropW dst)) H n (a.put dst undef) := by
  cases dst with
  | none => exact h
  | some d =>
    refine ⟨h.ok, h.h, fun x av hx => ?_, by show (a.tmps.setIfInBounds d undef).size = n; simp [h.n], h.df⟩
    rw [getD_put]
    simp only [dropW, foldA_cons] at hx
    have hx : (if x = d then some (AV.tup []) else T x) = some av := hx
    by_cases h1 : x = d
    · rw [if_pos h1] at hx
      injection hx with hx
      subst hx
      split
      · exact ra_undef E
      · rename_i h2
        subst h1
        have : ¬ x < a.tmps.size := fun h => h2 ⟨rfl, h⟩
        rw [Array.getD_eq_getD_getElem?, Array.getElem?_eq_none (by omega)]
        exact ra_undef E
    · rw [if_neg h1] at hx
      rw [if_neg (fun e => h1 e.1)]
      exact h.t x av hx

theorem Eff1.exec {P : Program} {ops : Array Oper} {o : Oper} {st : St} {tw : List (Nat × AV)} {hw : List (Nat × AObj)} {rd : List Nat} {al : Nat} (he : Eff1 P ops.toList o st tw hw rd al) {E : Env} {T : Nat → Option AV} {H : Heap} {a : Act} (m : Nat) (hS : SF E T H st.n a)
    (hT : ∀ x, x ∈ looks ops.toList o → T x = aget st.t x) (hH : ∀ id, id ∈ rd → H id = aget st.h id) (hf : ∀ i, i < al → H (st.nx + i) = none) {K : Act → World → Prop} {Q : Exit → Act → World → Prop}
    (hK : ∀ E' a', SF E' (foldA T tw) (foldA H hw) st.n a' → EvM m E E' → K a' E'.w) :
    if Region.wanted o (yielded ops a.tmps) = true then o.wp P a E.w K Q else K (a.put o.dst undef) E.w := by
  have hgt : ∀ {res : Bool}, guardIs ops.toList o (aget st.t) res → Region.wanted o (yielded ops a.tmps) = res := by
    intro res hg
    refine wanted_of (E := E) hg fun j w d h1 h2 av h3 => ?_
    have hd : d ∈ looks ops.toList o := by
      unfold looks
      rw [h1]
      simp [h2]
    exact hS.t d av (by rw [hT d hd]; exact h3)
  cases he with
  | run hg ht hop hd =>
    rename_i t1 u
    rw [if_pos (hgt hg)]
    refine hop o rfl E a ⟨hS.ok, fun id hid => (hS.h id).trans (hH id hid), fun i hi => (hS.h _).trans (hf i hi), fun x hx av hav => ?_⟩ K Q fun v E' hA => ?_
    · rw [ht] at hav
      exact hS.t x av (by rw [hT x (by unfold looks; exact List.mem_append.2 (.inl hx))]; exact hav)
    · refine hK E' _ ?_ hA.evm
      refine ⟨hA.ok, fun id => ?_, fun x av hx => ?_, ?_, ?_⟩
      · rw [hA.H, updH_all]
        exact foldA_same _ _ _ _ (hS.h id)
      · generalize o.dst = dst at hd ⊢
        generalize hgv : u.v = uv at hd
        cases hd with
        | none => exact RA.mono hA.ev (hS.t x av hx)
        | some hlt =>
          rename_i d v0
          have hval := hA.val v0 hgv
          rw [getD_put]
          have hx : (if x = d then some v0 else T x) = some av := hx
          by_cases h1 : x = d
          · rw [if_pos h1] at hx
            injection hx with hx
            subst hx
            rw [if_pos ⟨h1, by rw [hS.n]; exact hlt⟩]
            exact hval
          · rw [if_neg h1] at hx
            rw [if_neg (fun e => h1 e.1)]
            exact RA.mono hA.ev (hS.t x av hx)
      · cases o.dst with
        | none => exact hS.n
        | some d => show (a.tmps.setIfInBounds d v).size = _; simp [hS.n]
      · cases o.dst <;> exact hS.df
  | skip hg =>
    rw [hgt hg]
    simp only [Bool.false_eq_true, if_false]
    exact hK E _ (sf_drop hS o.dst) (EvM.refl E)

/-! ### what the evaluator says of one operation -/
theorem Stp.run_of {k : Upd → Option Out} {u : Upd} : ∀ {s : Stp}, s.get = some u → s.run k = k u
  | .fail, h => by cases h
  | .done u, h => by simp [Stp.get] at h; subst h; rfl
  | .test b y n, h => by
    cases b with
    | true => exact Stp.run_of (s := y) h
    | false => exact Stp.run_of (s := n) h
structure CtxOk (P : Program) (C : Ctx) : Prop where
  tt : TT P C.tt
  eqs : EqOk P C.tt C.eqs
  call : CallSem P C.call
theorem evalOper_ok {P : Program} {C : Ctx} (hC : CtxOk P C) {st : St} {o : Oper} {k : Upd → Option Out} {r : Out} (hk : evalOper C st o k = some r) : ∃ u, k u = some r ∧ (∀ k', evalOper C st o k' = k' u) ∧ OpOk P o.op st.t st.h st.nx u := by
  have plain : ∀ {op : Op}, o.op = op → (evalOp C.tt C.eqs st.t st.h st.nx op).run k = some r → ∃ u, k u = some r ∧ (∀ k', (evalOp C.tt C.eqs st.t st.h st.nx op).run k' = k' u) ∧ OpOk P o.op st.t st.h st.nx u := by
    intro op ho h
    obtain ⟨u, h1, h2⟩ := Stp.run_get h
    exact ⟨u, h2, fun k' => Stp.run_of h1, by rw [ho]; exact evalOp_ok hC.tt hC.eqs h1⟩
  unfold evalOper at hk ⊢
  cases ho : o.op with
  | call c =>
    simp only [ho] at hk ⊢
    cases hc : c.callee with
    | builtin b =>
      simp only [hc] at hk ⊢
      obtain ⟨u, h1, h2, h3⟩ := plain ho hk
      exact ⟨u, h1, h2, ho ▸ h3⟩
    | value f => simp only [hc] at hk ⊢; exact evalCall_ok hC.call hk
    | invoke a b => simp only [hc] at hk ⊢; exact evalCall_ok hC.call hk
  | _ =>
    simp only [ho] at hk ⊢
    obtain ⟨u, h1, h2, h3⟩ := plain ho hk
    exact ⟨u, h1, h2, ho ▸ h3⟩

/-- the tables behind an operation -/
structure Next1 (st st' : St) (tw : List (Nat × AV)) (hw : List (Nat × AObj)) (al : Nat) : Prop where
  t : ∀ x, aget st'.t x = foldA (aget st.t) tw x
  h : ∀ x, aget st'.h x = foldA (aget st.h) hw x
  n : st'.n = st.n
  m : st'.m = st.m
  nx : st'.nx = st.nx + al
  lt : ∀ y, y ∈ keysOf hw → y < st.nx + al
theorem upd_next {st st' : St} {dst : Option Tmp} {u : Upd} (hu : st.upd dst u = some st') : ∃ tw, DstW st.n dst u.v tw ∧ Next1 st st' tw (u.all st.nx) u.al.length := by
  unfold St.upd at hu
  obtain ⟨hlt, hu⟩ := cond_some hu
  have hlt' : ∀ y, y ∈ keysOf (u.all st.nx) → y < st.nx + u.al.length := by
    intro y hy
    rw [Upd.all, keys_append] at hy
    rcases List.mem_append.1 hy with hy | hy
    · have := allLt_spec hlt y hy; omega
    · exact ((mem_keys_number _ _ _).1 hy).2
  cases dst with
  | none =>
    simp only [Option.some.injEq] at hu
    subst hu
    exact ⟨[], .none, fun x => rfl, fun x => aget_aputs _ _ _, rfl, rfl, rfl, hlt'⟩
  | some d =>
    simp only at hu
    obtain ⟨hd, hu⟩ := cond_some hu
    split at hu
    · rename_i v hv
      simp only [Option.some.injEq] at hu
      subst hu
      rw [hv]
      exact ⟨[(d, v)], .some (Nat.le_of_ble_eq_true hd), fun x => aget_aput _ _ _ _, fun x => aget_aputs _ _ _, rfl, rfl, rfl, hlt'⟩
    · cases hu
theorem drop_next (st : St) (dst : Option Tmp) : Next1 st (st.drop dst) (dropW dst) [] 0 := by
  cases dst with
  | none => exact ⟨fun _ => rfl, fun _ => rfl, rfl, rfl, rfl, fun y hy => by simp [keysOf] at hy⟩
  | some d => exact ⟨fun x => aget_aput _ _ _ _, fun _ => rfl, rfl, rfl, rfl, fun y hy => by simp [keysOf] at hy⟩
theorem Next1.same {st st1 st' : St} {tw : List (Nat × AV)} {hw : List (Nat × AObj)} {al : Nat} (h : Next1 st1 st' tw hw al) (ht : ∀ x, aget st1.t x = aget st.t x) (h1 : st1.h = st.h) (h2 : st1.n = st.n) (h3 : st1.m = st.m) (h4 : st1.nx = st.nx) : Next1 st st' tw hw al :=
  ⟨fun x => (h.t x).trans (foldA_same _ _ _ _ (ht x)), fun x => by rw [h.h x, h1], by rw [h.n, h2], by rw [h.m, h3], by rw [h.nx, h4], fun y hy => by rw [← h4]; exact h.lt y hy⟩

theorem oneOp_ok {P : Program} {C : Ctx} (hC : CtxOk P C) {all : List Oper} {o : Oper} {st : St} {k : St → List Nat → List Nat → Option Out} {r : Out} (hk : oneOp C all o st k = some r) :
    ∃ st' tw hw rd al, k st' rd (keysOf hw) = some r ∧ (∀ k', oneOp C all o st k' = k' st' rd (keysOf hw)) ∧ Eff1 P all o st tw hw rd al ∧ Next1 st st' tw hw al := by
  have yes : ∀ {st1 : St} {k : St → List Nat → List Nat → Option Out} {r : Out}, (∀ x, aget st1.t x = aget st.t x) → st1.h = st.h → st1.n = st.n → st1.m = st.m → st1.nx = st.nx → guardIs all o (aget st.t) true →
      evalOper C st1 o (fun u => match st1.upd o.dst u with | some st' => k st' u.rd (keysOf (u.all st1.nx)) | none => none) = some r →
      ∃ st' tw hw rd al, k st' rd (keysOf hw) = some r ∧ (∀ k' : St → List Nat → List Nat → Option Out, evalOper C st1 o (fun u => match st1.upd o.dst u with | some st' => k' st' u.rd (keysOf (u.all st1.nx)) | none => none) = k' st' rd (keysOf hw)) ∧ Eff1 P all o st tw hw rd al ∧ Next1 st st' tw hw al := by
    intro st1 k r ht h1 h2 h3 h4 hg hk
    obtain ⟨u, k1, k2, k3⟩ := evalOper_ok hC hk
    split at k1
    · rename_i st' hu
      obtain ⟨tw, d1, d2⟩ := upd_next hu
      refine ⟨st', tw, _, _, _, k1, fun k' => ?_, ?_, d2.same ht h1 h2 h3 h4⟩
      · rw [k2]
        simp only [hu]
      · rw [h4]
        rw [h1, h4] at k3
        rw [h2] at d1
        exact .run hg ht k3 d1
    · cases k1
  have no : ∀ {st1 : St}, (∀ x, aget st1.t x = aget st.t x) → st1.h = st.h → st1.n = st.n → st1.m = st.m → st1.nx = st.nx → Next1 st (st1.drop o.dst) (dropW o.dst) [] 0 :=
    fun ht h1 h2 h3 h4 => (drop_next _ o.dst).same ht h1 h2 h3 h4
  unfold oneOp at hk ⊢
  cases hg : o.guard with
  | none =>
    simp only [hg, cond_true] at hk ⊢
    exact yes (fun _ => rfl) rfl rfl rfl rfl (by simp [guardIs, hg]) hk
  | some p =>
    obtain ⟨j, want⟩ := p
    simp only [hg] at hk ⊢
    cases hd : guardSlot all j with
    | none => simp only [hd] at hk; cases hk
    | some d =>
      simp only [hd] at hk ⊢
      split at hk
      · rename_i b hb
        have hsame : ∀ x, aget (aput st.t d (.b b)) x = aget st.t x := fun x => by
          rw [aget_aput]
          by_cases h1 : x = d
          · subst h1; rw [if_pos rfl]; exact hb.symm
          · rw [if_neg h1]
        have hgi : ∀ res, res = (b == want) → guardIs all o (aget st.t) res := fun res e => by
          unfold guardIs
          rw [hg]
          exact ⟨d, hd, .inl ⟨b, hb, e⟩⟩
        cases b with
        | true =>
          simp only [cond_true] at hk ⊢
          cases want with
          | true =>
            simp only [cond_true] at hk ⊢
            exact yes hsame rfl rfl rfl rfl (hgi true rfl) hk
          | false =>
            simp only [cond_false] at hk ⊢
            exact ⟨_, _, [], [], 0, hk, fun _ => rfl, .skip (hgi false rfl), no hsame rfl rfl rfl rfl⟩
        | false =>
          simp only [cond_false] at hk ⊢
          cases want with
          | true =>
            simp only [Bool.not_true, cond_false] at hk ⊢
            exact ⟨_, _, [], [], 0, hk, fun _ => rfl, .skip (hgi false rfl), no hsame rfl rfl rfl rfl⟩
          | false =>
            simp only [Bool.not_false, cond_true] at hk ⊢
            exact yes hsame rfl rfl rfl rfl (hgi true rfl) hk
      · rename_i hb
        simp only [cond_false] at hk ⊢
        exact ⟨_, _, [], [], 0, hk, fun _ => rfl, .skip (by unfold guardIs; rw [hg]; exact ⟨d, hd, .inr ⟨hb, rfl⟩⟩), drop_next st o.dst⟩
      · cases hk

/-! ### regions in the text's order -/
theorem SR.next {E : Env} {st st' : St} {a : Act} {tw : List (Nat × AV)} {hw : List (Nat × AObj)} {al : Nat} (hN : Next1 st st' tw hw al) (hfr : ∀ id, st.nx ≤ id → aget st.h id = none) (hS : SF E (foldA (aget st.t) tw) (foldA (aget st.h) hw) st.n a) : SR E st' a := by
  refine ⟨⟨hS.ok, fun id => by rw [hN.h]; exact hS.h id, fun x av hx => hS.t x av (by rw [← hN.t]; exact hx), by rw [hN.n]; exact hS.n, hS.df⟩, fun id hid => ?_⟩
  rw [hN.nx] at hid
  rw [hN.h, foldA_out _ _ _ (fun hk => by have := hN.lt id hk; omega)]
  exact hfr id (by omega)
theorem execOps_ok {P : Program} {C : Ctx} (hC : CtxOk P C) {ops : Array Oper} (m : Nat) : ∀ {l : List Oper} {st : St} {k : St → Option Out} {r : Out}, execOps C ops.toList k l st = some r →
    ∃ st', k st' = some r ∧ (∀ k', execOps C ops.toList k' l st = k' st') ∧ st'.n = st.n ∧ st'.m = st.m ∧
      ∀ (E : Env) (a : Act) (Q : Exit → Act → World → Prop), SR E st a → (∀ E' a', SR E' st' a' → EvM m E E' → Q .normal a' E'.w) → wpList P ops Q l a E.w
  | [], st, k, r, hk => ⟨st, hk, fun _ => rfl, rfl, rfl, fun E a Q hS hQ => hQ E a hS (EvM.refl E)⟩
  | o :: l, st, k, r, hk => by
    simp only [execOps] at hk
    obtain ⟨st1, tw, hw, rd, al, h1, h2, h3, h4⟩ := oneOp_ok hC hk
    obtain ⟨st', g1, g2, g3, g4, g5⟩ := execOps_ok hC m h1
    refine ⟨st', g1, fun k' => ?_, g3.trans h4.n, g4.trans h4.m, fun E a Q hS hQ => ?_⟩
    · simp only [execOps]
      rw [h2, g2]
    · refine wpList_step fun K hK => ?_
      refine Eff1.exec h3 m hS.sf (fun _ _ => rfl) (fun _ _ => rfl) (fun i _ => hS.fresh _ (by omega)) fun E' a' hS' hev => ?_
      exact hK a' _ (g5 E' a' Q (SR.next h4 hS.fresh hS') fun E2 a2 hS2 hev2 => hQ E2 a2 hS2 (hev.trans hev2))
end Go.Ve

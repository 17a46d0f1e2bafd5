/- The evaluator ("VE"): regions whose order is open. -/
import Derived.Test.YtijabmpcicddbaaVe16
set_option linter.unusedVariables false
set_option linter.unusedSimpArgs false
namespace Go.Ve

structure EffR where
  tw : List (Nat × AV)
  hw : List (Nat × AObj)
  rd : List Nat
  al : Nat
  st : St

abbrev Log := List (Nat × List Nat × List Nat)
inductive Sq (P : Program) (all : List Oper) (bs : List Nat) : List Oper → Nat → Log → St → List EffR → St → Prop where
  | nil {j log st} : Sq P all bs [] j log st [] st
  | cons {o rest j log st st1 st' e effs} : e.st = st → Eff1 P all o st e.tw e.hw e.rd e.al → Next1 st st1 e.tw e.hw e.al → okLog (bs.getD j 0) e.rd (keysOf e.hw) log = true →
      Sq P all bs rest (j + 1) ((j, e.rd, keysOf e.hw) :: log) st1 effs st' → Sq P all bs (o :: rest) j log st (e :: effs) st'

theorem execDraw_seq {P : Program} {C : Ctx} (hC : CtxOk P C) {all : List Oper} {bs : List Nat} : ∀ {l : List Oper} {j : Nat} {log : Log} {st : St} {k : St → Option Out} {r : Out}, execDraw C all bs k l j log st = some r →
    ∃ effs st', k st' = some r ∧ (∀ k', execDraw C all bs k' l j log st = k' st') ∧ Sq P all bs l j log st effs st'
  | [], j, log, st, k, r, hk => ⟨[], st, hk, fun _ => rfl, .nil⟩
  | o :: l, j, log, st, k, r, hk => by
    simp only [execDraw] at hk
    obtain ⟨st1, tw, hw, rd, al, h1, h2, h3, h4⟩ := oneOp_ok hC hk
    obtain ⟨hlog, h1⟩ := cond_some h1
    obtain ⟨effs, st', g1, g2, g3⟩ := execDraw_seq hC h1
    refine ⟨⟨tw, hw, rd, al, st⟩ :: effs, st', g1, fun k' => ?_, .cons rfl h3 h4 hlog g3⟩
    simp only [execDraw]
    rw [h2]
    simp only [hlog, cond_true]
    exact g2 k'

/-! ### what some of the operations leave -/
def sel {α : Type} (X : Nat → Bool) (f : EffR → List (Nat × α)) : Nat → List EffR → (Nat → Option α) → Nat → Option α
  | _, [], H => H
  | i, e :: es, H => sel X f (i + 1) es (if X i = true then foldA H (f e) else H)
theorem sel_congr {α : Type} {X Y : Nat → Bool} {f : EffR → List (Nat × α)} {y : Nat} : ∀ {es : List EffR} {i : Nat} {H H' : Nat → Option α}, (∀ (j : Nat) (e : EffR), es[j]? = some e → y ∈ keysOf (f e) → X (i + j) = Y (i + j)) → H y = H' y → sel X f i es H y = sel Y f i es H' y
  | [], i, H, H', _, hh => hh
  | e :: es, i, H, H', h, hh => by
    show sel X f (i + 1) es _ y = sel Y f (i + 1) es _ y
    refine sel_congr (fun j e' he' hy => ?_) ?_
    · have := h (j + 1) e' (by simpa using he') hy
      rw [show i + 1 + j = i + (j + 1) by omega]
      exact this
    · by_cases hy : y ∈ keysOf (f e)
      · have := h 0 e (by simp) hy
        simp only [Nat.add_zero] at this
        rw [this]
        split
        · exact foldA_in _ _ _ _ hy
        · exact hh
      · have e1 : ∀ (b : Bool) (G : Nat → Option α), (if b = true then foldA G (f e) else G) y = G y := by
          intro b G
          split
          · exact foldA_out _ _ _ hy
          · rfl
        rw [e1, e1, hh]
theorem sel_none {α : Type} {X : Nat → Bool} {f : EffR → List (Nat × α)} : ∀ {es : List EffR} {i : Nat} {H : Nat → Option α}, (∀ q, i ≤ q → X q = false) → sel X f i es H = H
  | [], i, H, _ => rfl
  | e :: es, i, H, h => by
    rw [sel, h i (Nat.le_refl _), if_neg (by simp)]
    exact sel_none fun q hq => h q (by omega)
theorem sel_last {α : Type} {X : Nat → Bool} {f : EffR → List (Nat × α)} {y : Nat} (G : Nat → Option α) : ∀ {es : List EffR} {i j : Nat} {e : EffR} {H : Nat → Option α}, es[j]? = some e → X (i + j) = true → y ∈ keysOf (f e) →
    (∀ (j' : Nat) (e' : EffR), j < j' → es[j']? = some e' → X (i + j') = true → y ∉ keysOf (f e')) → sel X f i es H y = foldA G (f e) y
  | [], i, j, e, H, he, _, _, _ => by simp at he
  | e0 :: es, i, 0, e, H, he, hX, hy, hlast => by
    simp at he
    subst he
    rw [sel, if_pos (by simpa using hX)]
    have : sel X f (i + 1) es (foldA H (f e0)) y = sel (fun _ => false) f (i + 1) es (foldA H (f e0)) y := by
      refine sel_congr (fun j e' he' hy' => ?_) rfl
      cases hx : X (i + 1 + j) with
      | false => rfl
      | true => exact absurd hy' (hlast (j + 1) e' (by omega) (by simpa using he') (by rw [show i + (j + 1) = i + 1 + j by omega]; exact hx))
    rw [this, sel_none (fun _ _ => rfl)]
    exact foldA_in _ _ _ _ hy
  | e0 :: es, i, j + 1, e, H, he, hX, hy, hlast => by
    rw [sel]
    refine sel_last G (j := j) (by simpa using he) (by rw [show i + 1 + j = i + (j + 1) by omega]; exact hX) hy fun j' e' h1 h2 h3 => ?_
    exact hlast (j' + 1) e' (by omega) (by simpa using h2) (by rw [show i + (j' + 1) = i + 1 + j' by omega]; exact h3)

section
variable {P : Program} {all : List Oper} {bs : List Nat}

theorem Sq.len {l : List Oper} {j : Nat} {log : Log} {st st' : St} {effs : List EffR} (h : Sq P all bs l j log st effs st') : effs.length = l.length := by
  induction h with
  | nil => rfl
  | cons _ _ _ _ _ ih => simp [ih]
/-- each operation's state, by what stands ahead of it -/
theorem Sq.at {l : List Oper} {j : Nat} {log : Log} {st st' : St} {effs : List EffR} (h : Sq P all bs l j log st effs st') : ∀ (i : Nat) (e : EffR), effs[i]? = some e →
    (∃ o, l[i]? = some o ∧ Eff1 P all o e.st e.tw e.hw e.rd e.al) ∧ (∀ x, aget e.st.t x = sel (fun q => decide (q < j + i)) (·.tw) j effs (aget st.t) x) ∧ (∀ x, aget e.st.h x = sel (fun q => decide (q < j + i)) (·.hw) j effs (aget st.h) x) ∧
      e.st.n = st.n ∧ st.nx ≤ e.st.nx ∧ (∀ y, y ∈ keysOf e.hw → y < e.st.nx + e.al) ∧ ∀ (i' : Nat) (e' : EffR), effs[i']? = some e' → i < i' → e.st.nx + e.al ≤ e'.st.nx := by
  induction h with
  | nil => intro i e he; simp at he
  | cons hst h1 h2 h3 h4 ih =>
    rename_i o rest j log st st1 st' e0 effs
    intro i e he
    cases i with
    | zero =>
      simp at he
      subst he
      refine ⟨⟨o, by simp, by rw [hst]; exact h1⟩, fun x => ?_, fun x => ?_, by rw [hst], by rw [hst]; exact Nat.le_refl _, by rw [hst]; exact h2.lt, fun i' e' he' hi' => ?_⟩
      · rw [sel_none fun q hq => by simp; omega, hst]
      · rw [sel_none fun q hq => by simp; omega, hst]
      · cases i' with
        | zero => omega
        | succ i' =>
          obtain ⟨_, _, _, _, k1, _⟩ := ih i' e' (by simpa using he')
          rw [hst, ← h2.nx]
          exact k1
    | succ i =>
      have he' : effs[i]? = some e := by simpa using he
      obtain ⟨⟨o', k1, k2⟩, k3, k4, k5, k6, k7, k8⟩ := ih i e he'
      have e1 : (fun q => decide (q < j + 1 + i)) = (fun q => decide (q < j + (i + 1))) := by funext q; congr 1; apply propext; omega
      refine ⟨⟨o', by simpa using k1, k2⟩, fun x => ?_, fun x => ?_, k5.trans h2.n, by have := h2.nx; omega, k7, fun i' e' h5 h6 => ?_⟩
      · rw [k3, e1, sel, if_pos (by simp)]
        exact sel_congr (fun _ _ _ _ => rfl) (h2.t x)
      · rw [k4, e1, sel, if_pos (by simp)]
        exact sel_congr (fun _ _ _ _ => rfl) (h2.h x)
      · cases i' with
        | zero => omega
        | succ i' => exact k8 i' e' (by simpa using h5) (by omega)
theorem Sq.final {l : List Oper} {j : Nat} {log : Log} {st st' : St} {effs : List EffR} (h : Sq P all bs l j log st effs st') :
    (∀ x, aget st'.t x = sel (fun _ => true) (·.tw) j effs (aget st.t) x) ∧ (∀ x, aget st'.h x = sel (fun _ => true) (·.hw) j effs (aget st.h) x) ∧ st'.n = st.n ∧ st'.m = st.m ∧ st.nx ≤ st'.nx ∧ ∀ (i : Nat) (e : EffR), effs[i]? = some e → e.st.nx + e.al ≤ st'.nx := by
  induction h with
  | nil => exact ⟨fun _ => rfl, fun _ => rfl, rfl, rfl, Nat.le_refl _, fun i e he => by simp at he⟩
  | cons hst h1 h2 h3 h4 ih =>
    rename_i o rest j log st st1 st' e0 effs
    obtain ⟨k1, k2, k3, k4, k5, k6⟩ := ih
    refine ⟨fun x => ?_, fun x => ?_, k3.trans h2.n, k4.trans h2.m, by have := h2.nx; omega, fun i e he => ?_⟩
    · rw [k1, sel, if_pos rfl]
      exact sel_congr (fun _ _ _ _ => rfl) (h2.t x)
    · rw [k2, sel, if_pos rfl]
      exact sel_congr (fun _ _ _ _ => rfl) (h2.h x)
    · cases i with
      | zero => simp at he; subst he; rw [hst, ← h2.nx]; exact k5
      | succ i => exact k6 i e (by simpa using he)

def Conf (b q : Nat) (r w : List Nat) (e : EffR) : Prop := Nat.testBit b q = true ∨ (disj w e.rd = true ∧ disj w (keysOf e.hw) = true ∧ disj r (keysOf e.hw) = true)
theorem okLog_spec {b : Nat} {r w : List Nat} : ∀ {log : Log}, okLog b r w log = true → ∀ q r' w', (q, r', w') ∈ log → Nat.testBit b q = true ∨ (disj w' r = true ∧ disj w' w = true ∧ disj r' w = true)
  | [], _, q, r', w', hm => by simp at hm
  | (i, ri, wi) :: l, h, q, r', w', hm => by
    simp only [okLog, Bool.and_eq_true, Bool.or_eq_true] at h
    rcases List.mem_cons.1 hm with e | hm
    · injection e with e1 e2
      injection e2 with e2 e3
      subst e1
      subst e2
      subst e3
      rcases h.1 with h1 | h1
      · exact .inl h1
      · exact .inr ⟨h1.1.1, h1.1.2, h1.2⟩
    · exact okLog_spec h.2 q r' w' hm
theorem Sq.log {l : List Oper} {j : Nat} {log : Log} {st st' : St} {effs : List EffR} (h : Sq P all bs l j log st effs st') :
    (∀ q r w, (q, r, w) ∈ log → ∀ (i : Nat) (e : EffR), effs[i]? = some e → Conf (bs.getD (j + i) 0) q r w e) ∧ ∀ (i i' : Nat) (e e' : EffR), i < i' → effs[i]? = some e → effs[i']? = some e' → Conf (bs.getD (j + i') 0) (j + i) e.rd (keysOf e.hw) e' := by
  induction h with
  | nil => exact ⟨fun _ _ _ _ i e he => by simp at he, fun i i' e e' _ he => by simp at he⟩
  | cons hst h1 h2 h3 h4 ih =>
    rename_i o rest j log st st1 st' e0 effs
    obtain ⟨k1, k2⟩ := ih
    refine ⟨fun q r w hm i e he => ?_, fun i i' e e' hi he he' => ?_⟩
    · cases i with
      | zero => simp at he; subst he; exact okLog_spec h3 q r w hm
      | succ i => rw [show j + (i + 1) = j + 1 + i by omega]; exact k1 q r w (by simp [hm]) i e (by simpa using he)
    · cases i' with
      | zero => omega
      | succ i' =>
        rw [show j + (i' + 1) = j + 1 + i' by omega]
        cases i with
        | zero => simp at he; subst he; exact k1 j _ _ (by simp) i' e' (by simpa using he')
        | succ i => rw [show j + (i + 1) = j + 1 + i by omega]; exact k2 i i' e e' (by omega) (by simpa using he) (by simpa using he')
end

/-! ### the masks -/
theorem edgeMask_spec {acc : List Nat} : ∀ {es : List Edge} {q : Nat}, Nat.testBit (edgeMask acc es) q = true → ∃ e, e ∈ es ∧ Region.binds .any e = true ∧ (q = e.on ∨ Nat.testBit (acc.getD e.on 0) q = true)
  | [], q, h => by simp [edgeMask] at h
  | e :: es, q, h => by
    simp only [edgeMask, Nat.testBit_or, Bool.or_eq_true] at h
    rcases h with h | h
    · cases hb : Region.binds .any e with
      | false => simp [hb] at h
      | true =>
        simp only [hb, cond_true, Nat.testBit_or, Bool.or_eq_true] at h
        rcases h with h | h
        · exact ⟨e, by simp, hb, .inl (by
            rw [Nat.testBit_two_pow] at h
            have h6 : e.on = q := by simpa using h
            exact h6.symm)⟩
        · exact ⟨e, by simp, hb, .inr h⟩
    · obtain ⟨e', h1, h2, h3⟩ := edgeMask_spec h
      exact ⟨e', by simp [h1], h2, h3⟩
/-- what an operation waits for is done -/
def Waited (X : Nat → Bool) (o : Oper) : Prop := ∀ e, e ∈ o.after.toList → Region.binds .any e = true → X e.on = true
theorem befs_closed {ops : List Oper} {X : Nat → Bool} (hX : ∀ (i : Nat) (o : Oper), ops[i]? = some o → X i = true → Waited X o) (hout : ∀ i, ops[i]? = none → X i = false) :
    ∀ (i : Nat) (o : Oper), ops[i]? = some o → Waited X o → ∀ q, Nat.testBit ((befs ops).getD i 0) q = true → X q = true := by
  have key : ∀ (rest pre : List Oper) (acc : List Nat), ops = pre ++ rest → acc.length = pre.length → (∀ (i : Nat) (o : Oper), ops[i]? = some o → Waited X o → ∀ q, Nat.testBit (acc.getD i 0) q = true → X q = true) →
      ∀ (i : Nat) (o : Oper), ops[i]? = some o → Waited X o → ∀ q, Nat.testBit ((befGo acc rest).getD i 0) q = true → X q = true := by
    intro rest
    induction rest with
    | nil => intro pre acc _ _ h; exact h
    | cons o r ih =>
      intro pre acc he hl h
      refine ih (pre ++ [o]) (acc ++ [edgeMask acc o.after.toList]) (by rw [he]; simp) (by simp [hl]) fun i o' ho' hw q hq => ?_
      by_cases hi : i < acc.length
      · refine h i o' ho' hw q ?_
        simpa [List.getD, List.getElem?_append_left hi] using hq
      · by_cases hi2 : i = acc.length
        · subst hi2
          have hoo : o' = o := by
            rw [he, List.getElem?_append_right (by omega), hl] at ho'
            simpa using ho'.symm
          subst hoo
          have hq' : Nat.testBit (edgeMask acc o'.after.toList) q = true := by simpa [List.getD] using hq
          obtain ⟨e, h1, h2, h3⟩ := edgeMask_spec hq'
          have hXe := hw e h1 h2
          rcases h3 with rfl | h3
          · exact hXe
          · cases hoe : ops[e.on]? with
            | none => rw [hout _ hoe] at hXe; cases hXe
            | some oe => exact h e.on oe hoe (hX _ oe hoe hXe) q h3
        · rw [List.getD, List.getElem?_eq_none (by simp; omega)] at hq
          simp at hq
  exact key ops [] [] rfl rfl fun i o _ _ q hq => by simp at hq
theorem tempsOk1_spec {all : List Oper} {b : Nat} {o : Oper} : ∀ {l : List Oper} {k : Nat}, tempsOk1 all b o k l = true → ∀ (i : Nat) (x : Oper), l[i]? = some x → Nat.testBit b (k + i) = true ∨ apartT all x o = true
  | [], k, _, i, x, hx => by simp at hx
  | y :: l, k, h, i, x, hx => by
    simp only [tempsOk1, Bool.and_eq_true, Bool.or_eq_true] at h
    cases i with
    | zero => simp at hx; subst hx; exact h.1
    | succ i => rw [show k + (i + 1) = k + 1 + i by omega]; exact tempsOk1_spec h.2 i x (by simpa using hx)
theorem tempsGo_spec {all : List Oper} {bs : List Nat} : ∀ {l : List Oper} {k : Nat}, tempsGo all bs k l = true → ∀ (j : Nat) (o : Oper), l[j]? = some o → ∀ (i : Nat) (x : Oper), i < k + j → all[i]? = some x → Nat.testBit (bs.getD (k + j) 0) i = true ∨ apartT all x o = true
  | [], k, _, j, o, ho => by simp at ho
  | y :: l, k, h, j, o, ho => by
    intro i x hi hx
    simp only [tempsGo, Bool.and_eq_true] at h
    cases j with
    | zero =>
      simp at ho
      subst ho
      have := tempsOk1_spec h.1 i x (by rw [List.getElem?_take_of_lt (by omega)]; exact hx)
      simpa using this
    | succ j =>
      rw [show k + (j + 1) = k + 1 + j by omega]
      exact tempsGo_spec h.2 j o (by simpa using ho) i x (by omega) hx
theorem edgesOk_spec : ∀ {l : List Oper} {k : Nat}, edgesOk k l = true → ∀ (j : Nat) (o : Oper), l[j]? = some o → ∀ e, e ∈ o.after.toList → Region.binds .any e = true → e.on < k + j
  | [], k, _, j, o, ho => by simp at ho
  | y :: l, k, h, j, o, ho => by
    intro e he hb
    simp only [edgesOk, Bool.and_eq_true] at h
    cases j with
    | zero =>
      simp at ho
      subst ho
      have := List.all_eq_true.1 h.1.1 e he
      rw [hb] at this
      have h5 : e.on < k := by simpa using this
      omega
    | succ j => rw [show k + (j + 1) = k + 1 + j by omega]; exact edgesOk_spec h.2 j o (by simpa using ho) e he hb
theorem disj_spec {a b : List Nat} (h : disj a b = true) : ∀ x, x ∈ a → x ∉ b := by
  intro x hx hb
  have := List.all_eq_true.1 h x hx
  rw [has_iff.2 hb] at this
  cases this

/-! ### whatever order is picked -/
theorem eff_tw {P : Program} {all : List Oper} {o : Oper} {st : St} {tw : List (Nat × AV)} {hw : List (Nat × AObj)} {rd : List Nat} {al : Nat} (h : Eff1 P all o st tw hw rd al) : (∀ y, y ∈ keysOf tw → y ∈ dstOf o) ∧ ∀ i, i < al → st.nx + i ∈ keysOf hw := by
  cases h with
  | run hg ht hop hd =>
    refine ⟨fun y hy => ?_, fun i hi => ?_⟩
    · unfold dstOf
      generalize o.dst = dst at hd
      rename_i u
      generalize u.v = uv at hd
      cases hd with
      | none => simp [keysOf] at hy
      | some _ => simpa [keysOf] using hy
    · rw [Upd.all, keys_append]
      exact List.mem_append.2 (.inr ((mem_keys_number _ _ _).2 ⟨by omega, by omega⟩))
  | skip hg =>
    refine ⟨fun y hy => ?_, fun i hi => by omega⟩
    unfold dstOf
    generalize o.dst = dst at hy
    cases dst with
    | none => simp [dropW, keysOf] at hy
    | some d => simpa [dropW, keysOf] using hy

section
variable {P : Program} {ops : Array Oper} {st st' : St} {effs : List EffR}

theorem draw_main (m : Nat) (hsq : Sq P ops.toList (befs ops.toList) ops.toList 0 [] st effs st') (htm : tempsOk ops.toList = true) (hfr : ∀ id, st.nx ≤ id → aget st.h id = none) {Q : Exit → Act → World → Prop} {E0 : Env}
    (hQ : ∀ E' a', SR E' st' a' → EvM m E0 E' → Q .normal a' E'.w) : ∀ (fuel : Nat) (listed : Array Bool) (E : Env) (a : Act), listed.size = ops.size → listed.toList.count false ≤ fuel →
      (∀ (i : Nat) (o : Oper), ops[i]? = some o → listed.getD i false = true → Waited (fun q => listed.getD q false) o) →
      SF E (sel (fun q => listed.getD q false) (·.tw) 0 effs (aget st.t)) (sel (fun q => listed.getD q false) (·.hw) 0 effs (aget st.h)) st.n a → EvM m E0 E → wpAny P .any ops Q fuel listed a E.w := by
  simp only [tempsOk, Bool.and_eq_true] at htm
  obtain ⟨htm, hed⟩ := htm
  have htm := tempsGo_spec htm
  have hed := edgesOk_spec hed
  have hlen : effs.length = ops.size := by rw [hsq.len]; simp
  have hat := hsq.at
  obtain ⟨_, hconf⟩ := hsq.log
  simp only [Nat.zero_add] at htm hat hconf hed
  -- all is done
  have hend : ∀ (listed : Array Bool) (E : Env) (a : Act), listed.size = ops.size → (∀ i, i < ops.size → listed.getD i false = true) →
      SF E (sel (fun q => listed.getD q false) (·.tw) 0 effs (aget st.t)) (sel (fun q => listed.getD q false) (·.hw) 0 effs (aget st.h)) st.n a → EvM m E0 E → Q .normal a E.w := by
    intro listed E a hls hall hS hev
    obtain ⟨f1, f2, f3, f4, f5, f6⟩ := hsq.final
    refine hQ E a ⟨⟨hS.ok, fun id => ?_, fun x av hx => ?_, by rw [f3]; exact hS.n, hS.df⟩, fun id hid => ?_⟩ hev
    · rw [f2, hS.h]
      refine sel_congr (fun j e he _ => ?_) rfl
      simp only [Nat.zero_add]
      exact hall j (by rw [← hlen]; exact (List.getElem?_eq_some_iff.1 he).1)
    · refine hS.t x av ?_
      rw [← hx, f1]
      refine sel_congr (fun j e he _ => ?_) rfl
      simp only [Nat.zero_add]
      exact hall j (by rw [← hlen]; exact (List.getElem?_eq_some_iff.1 he).1)
    · rw [f2]
      have h1 : sel (fun _ => true) (·.hw) 0 effs (aget st.h) id = sel (fun _ => false) (·.hw) 0 effs (aget st.h) id := by
        refine sel_congr (fun j e he hk => ?_) rfl
        have := (hat j e he).2.2.2.2.2.1 id hk
        have := f6 j e he
        omega
      rw [h1, sel_none (fun _ _ => rfl)]
      exact hfr id (by omega)
  -- nobody is ready: all is done
  have hnil : ∀ (listed : Array Bool), listed.size = ops.size → Region.ready .any ops listed = [] → ∀ i, i < ops.size → listed.getD i false = true := by
    intro listed hls hr i
    induction i using Nat.strongRecOn with
    | _ i ih =>
      intro hi
      cases hx : listed.getD i false with
      | true => rfl
      | false =>
        exfalso
        have hm : i ∈ Region.ready .any ops listed := by
          unfold Region.ready
          rw [List.mem_filter]
          refine ⟨by simpa using hi, ?_⟩
          have h1 : listed.getD i true = false := by
            rw [Array.getD_eq_getD_getElem?] at hx ⊢
            rw [Array.getElem?_eq_getElem (by omega)] at hx ⊢
            simpa using hx
          have h2 : ops[i]? = some ops[i] := by simp [hi]
          rw [h1, h2]
          simp only [Bool.not_false, Option.map_some, Option.getD_some, Bool.true_and]
          rw [Array.all_eq_true_iff_forall_mem]
          intro e he
          cases hb : Region.binds .any e with
          | false => rfl
          | true =>
            have := hed i ops[i] (by simp) e (by simpa using he) hb
            simp [ih e.on this (by omega)]
        rw [hr] at hm
        cases hm
  intro fuel
  induction fuel with
  | zero =>
    intro listed E a hls hc hX hS hev
    have hall : ∀ i, i < ops.size → listed.getD i false = true := by
      intro i hi
      have h0 : listed.toList.count false = 0 := by omega
      rw [List.count_eq_zero] at h0
      cases hx : listed.getD i false with
      | true => rfl
      | false =>
        exfalso
        apply h0
        rw [Array.getD_eq_getD_getElem?, Array.getElem?_eq_getElem (by omega)] at hx
        have hx : listed[i] = false := by simpa using hx
        rw [← hx]
        simp
    refine ⟨?_, hend listed E a hls hall hS hev⟩
    unfold Region.ready
    rw [List.filter_eq_nil_iff]
    intro i hi
    have := hall i (by simpa using hi)
    rw [Array.getD_eq_getD_getElem?, Array.getElem?_eq_getElem (by rw [hls]; simpa using hi)] at this
    rw [Array.getD_eq_getD_getElem?, Array.getElem?_eq_getElem (by rw [hls]; simpa using hi)]
    simp at this
    simp [this]
  | succ fuel ih =>
    intro listed E a hls hc hX hS hev
    refine ⟨fun hr => hend listed E a hls (hnil listed hls hr) hS hev, fun i hi => ?_⟩
    unfold Region.ready at hi
    rw [List.mem_filter] at hi
    obtain ⟨hi1, hi2⟩ := hi
    have hi1 : i < ops.size := by simpa using hi1
    have hoi : ops[i]? = some ops[i] := by simp [hi1]
    rw [hoi] at hi2
    simp only [Option.map_some, Option.getD_some, Bool.and_eq_true, Bool.not_eq_true'] at hi2
    obtain ⟨hi2, hi3⟩ := hi2
    have hXi : listed.getD i false = false := by
      rw [Array.getD_eq_getD_getElem?, Array.getElem?_eq_getElem (by omega)] at hi2 ⊢
      simpa using hi2
    generalize hoo : ops[i] = o at hoi hi3
    have hwait : Waited (fun q => listed.getD q false) o := by
      intro e he hb
      have := Array.all_eq_true_iff_forall_mem.1 hi3 e (by simpa using he)
      rw [hb] at this
      simpa using this
    have hoi' : ops.toList[i]? = some o := by simpa using hoi
    obtain ⟨e, he⟩ : ∃ e, effs[i]? = some e := ⟨effs[i]'(by omega), by simp [hlen, hi1]⟩
    obtain ⟨⟨o', ho', heff⟩, ht, hh, hn, hnx, hlt, hmono⟩ := hat i e he
    have hoo' : o' = o := by rw [hoi'] at ho'; exact (Option.some.inj ho').symm
    subst hoo'
    have hXout : ∀ j, ops.toList[j]? = none → listed.getD j false = false := by
      intro j hj
      rw [Array.getD_eq_getD_getElem?, Array.getElem?_eq_none]
      · rfl
      · have := List.getElem?_eq_none_iff.1 hj
        simp at this
        omega
    have hcl := befs_closed (ops := ops.toList) (X := fun q => listed.getD q false) (fun j oj hj hx => hX j oj (by simpa using hj) hx) hXout
    have hbef : ∀ j, Nat.testBit ((befs ops.toList).getD i 0) j = true → listed.getD j false = true := hcl i o' hoi' hwait
    have haft : ∀ (j : Nat) (oj : Oper), ops.toList[j]? = some oj → listed.getD j false = true → Nat.testBit ((befs ops.toList).getD j 0) i = true → False := by
      intro j oj hj hx hb
      have := hcl j oj hj (hX j oj (by simpa using hj) hx) i hb
      simp only [hXi] at this
      cases this
    have hej : ∀ (j : Nat) (e : EffR), effs[j]? = some e → ∃ oj, ops.toList[j]? = some oj ∧ Eff1 P ops.toList oj e.st e.tw e.hw e.rd e.al := fun j e h => (hat j e h).1
    have htw := eff_tw heff
    rw [wpOp]
    simp only [hoi]
    have key := Eff1.exec (P := P) (ops := ops) heff (E := E) (T := sel (fun q => listed.getD q false) (·.tw) 0 effs (aget st.t)) (H := sel (fun q => listed.getD q false) (·.hw) 0 effs (aget st.h)) (a := a) m (by rw [hn]; exact hS)
      (fun x hx => by
        rw [ht]
        refine sel_congr (fun j ej hej' hk => ?_) rfl
        simp only [Nat.zero_add]
        obtain ⟨oj, hoj, heffj⟩ := hej j ej hej'
        have hxd := (eff_tw heffj).1 x hk
        rcases Nat.lt_trichotomy j i with hlt2 | rfl | hgt
        · rw [decide_eq_true hlt2]
          rcases htm i o' hoi' j oj hlt2 hoj with h1 | h1
          · exact hbef j h1
          · exfalso
            simp only [apartT, Bool.and_eq_true] at h1
            exact disj_spec h1.1 x hxd (List.mem_append.2 (.inl hx))
        · rw [hXi]; simp
        · rw [decide_eq_false (by omega)]
          cases hxj : listed.getD j false with
          | false => rfl
          | true =>
            exfalso
            rcases htm j oj hoj i o' hgt hoi' with h1 | h1
            · exact haft j oj hoj hxj h1
            · simp only [apartT, Bool.and_eq_true] at h1
              exact disj_spec h1.2 x hxd hx)
      (fun id hid => by
        rw [hh]
        refine sel_congr (fun j ej hej' hk => ?_) rfl
        simp only [Nat.zero_add]
        obtain ⟨oj, hoj, heffj⟩ := hej j ej hej'
        rcases Nat.lt_trichotomy j i with hlt2 | rfl | hgt
        · rw [decide_eq_true hlt2]
          rcases hconf j i ej e hlt2 hej' he with h1 | h1
          · exact hbef j h1
          · exact absurd hid (disj_spec h1.1 id hk)
        · rw [hXi]; simp
        · rw [decide_eq_false (by omega)]
          cases hxj : listed.getD j false with
          | false => rfl
          | true =>
            exfalso
            rcases hconf i j e ej hgt he hej' with h1 | h1
            · exact haft j oj hoj hxj h1
            · exact disj_spec h1.2.2 id hid hk)
      (fun q hq => by
        have h1 : sel (fun q => listed.getD q false) (·.hw) 0 effs (aget st.h) (e.st.nx + q) = sel (fun _ => false) (·.hw) 0 effs (aget st.h) (e.st.nx + q) := by
          refine sel_congr (fun j ej hej' hk => ?_) rfl
          simp only [Nat.zero_add]
          obtain ⟨oj, hoj, heffj⟩ := hej j ej hej'
          rcases Nat.lt_trichotomy j i with hlt2 | rfl | hgt
          · have h2 := (hat j ej hej').2.2.2.2.2.1 _ hk
            have h3 := (hat j ej hej').2.2.2.2.2.2 i e he hlt2
            omega
          · exact hXi
          · cases hxj : listed.getD j false with
            | false => rfl
            | true =>
              exfalso
              rcases hconf i j e ej hgt he hej' with h1 | h1
              · exact haft j oj hoj hxj h1
              · exact disj_spec h1.2.1 _ (htw.2 q hq) hk
        rw [h1, sel_none (fun _ _ => rfl)]
        exact hfr _ (by omega))
      (K := wpAny P .any ops Q fuel (listed.setIfInBounds i true)) (Q := Q) (fun E' a' hS' hev' => by
        have hX' : ∀ j, (listed.setIfInBounds i true).getD j false = if j = i then true else listed.getD j false := by
          intro j
          rw [Array.getD_eq_getD_getElem?, Array.getD_eq_getD_getElem?, Array.getElem?_setIfInBounds]
          by_cases h1 : j = i
          · subst h1
            rw [if_pos rfl, if_pos (by omega), if_pos rfl]
            rfl
          · rw [if_neg (fun e => h1 e.symm), if_neg h1]
        have hT' : ∀ y, foldA (sel (fun q => listed.getD q false) (·.tw) 0 effs (aget st.t)) e.tw y = sel (fun q => (listed.setIfInBounds i true).getD q false) (·.tw) 0 effs (aget st.t) y := by
          intro y
          by_cases hy : y ∈ keysOf e.tw
          · rw [sel_last (sel (fun q => listed.getD q false) (·.tw) 0 effs (aget st.t)) he (by simp only [Nat.zero_add]; rw [hX', if_pos rfl]) hy]
            intro j ej hji hej' hxj hk
            simp only [Nat.zero_add] at hxj
            rw [hX', if_neg (by omega)] at hxj
            obtain ⟨oj, hoj, heffj⟩ := hej j ej hej'
            have hxd := (eff_tw heffj).1 y hk
            rcases htm j oj hoj i o' hji hoi' with h1 | h1
            · exact haft j oj hoj hxj h1
            · simp only [apartT, Bool.and_eq_true] at h1
              exact disj_spec h1.1 y (htw.1 y hy) (List.mem_append.2 (.inr hxd))
          · rw [foldA_out _ _ _ hy]
            refine sel_congr (fun j ej hej' hk => ?_) rfl
            simp only [Nat.zero_add]
            rw [hX', if_neg]
            rintro rfl
            rw [he] at hej'
            injection hej' with hej'
            subst hej'
            exact hy hk
        have hH' : ∀ y, foldA (sel (fun q => listed.getD q false) (·.hw) 0 effs (aget st.h)) e.hw y = sel (fun q => (listed.setIfInBounds i true).getD q false) (·.hw) 0 effs (aget st.h) y := by
          intro y
          by_cases hy : y ∈ keysOf e.hw
          · rw [sel_last (sel (fun q => listed.getD q false) (·.hw) 0 effs (aget st.h)) he (by simp only [Nat.zero_add]; rw [hX', if_pos rfl]) hy]
            intro j ej hji hej' hxj hk
            simp only [Nat.zero_add] at hxj
            rw [hX', if_neg (by omega)] at hxj
            obtain ⟨oj, hoj, heffj⟩ := hej j ej hej'
            rcases hconf i j e ej hji he hej' with h1 | h1
            · exact haft j oj hoj hxj h1
            · exact disj_spec h1.2.1 y hy hk
          · rw [foldA_out _ _ _ hy]
            refine sel_congr (fun j ej hej' hk => ?_) rfl
            simp only [Nat.zero_add]
            rw [hX', if_neg]
            rintro rfl
            rw [he] at hej'
            injection hej' with hej'
            subst hej'
            exact hy hk
        refine ih (listed.setIfInBounds i true) E' a' (by simpa using hls) ?_ ?_ ?_ (hev.trans hev')
        · have hil : i < listed.toList.length := by simpa using (show i < listed.size by omega)
          have hli : listed.toList[i] = false := by
            rw [Array.getD_eq_getD_getElem?, Array.getElem?_eq_getElem (by omega)] at hXi
            simpa using hXi
          have hpos : 0 < listed.toList.count false := List.count_pos_iff.2 (by rw [← hli]; exact List.getElem_mem hil)
          rw [Array.toList_setIfInBounds, List.count_set hil, hli, if_pos (show (false == false) = true from rfl), if_neg (show ¬ (true == false) = true by decide)]
          omega
        · intro j oj hj hx e2 he2 hb2
          show (listed.setIfInBounds i true).getD e2.on false = true
          rw [hX']
          split
          · rfl
          · rw [hX'] at hx
            by_cases hji : j = i
            · subst hji
              rw [hoi] at hj
              injection hj with hj
              subst hj
              exact hwait e2 he2 hb2
            · rw [if_neg hji] at hx
              exact hX j oj hj hx e2 he2 hb2
        · refine ⟨hS'.ok, fun id => ?_, fun x av hx => ?_, by rw [← hn]; exact hS'.n, hS'.df⟩
          · rw [← hH']; exact hS'.h id
          · exact hS'.t x av (by rw [hT']; exact hx))
    split
    · rename_i hw
      rw [if_pos hw] at key
      exact .inl key
    · rename_i hw
      rw [if_neg hw] at key
      exact key
end
end Go.Ve

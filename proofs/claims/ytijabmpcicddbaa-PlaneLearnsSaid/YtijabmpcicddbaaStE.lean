/- (*Table).Statics: a summary for the evaluator. -/
import Derived.Test.YtijabmpcicddbaaStD
import Derived.Test.YtijabmpcicddbaaInsC
set_option linter.unusedVariables false
set_option linter.unusedSimpArgs false
namespace Go.Proofs.Ytijabmpcicddbaa
open Go.Ve Go.Lib
def statL (f : Nat → Nat → PV) : Nat → MapL → MapL
  | 0, l => l
  | n + 1, l => statL f n (mput l [.val (.int .i64 (numOf (f n 1))), .val (.int .u64 (numOf (f n 0)))] [.val (.int .i64 (numOf (f n 2)))])
def zOf (f : Nat → Nat → PV) (j : Nat) : Sta.Z := ⟨numOf (f j 0), numOf (f j 1), numOf (f j 2)⟩
theorem statL_build (f : Nat → Nat → PV) : ∀ (n : Nat) (l : MapL), statL f n l = (Sta.upto (Sta.item n (zOf f)) n).foldl (fun l x => mput l [.val (.int .i64 x.2.v), .val (.int .u64 x.2.m)] [.val (.int .i64 x.2.p)]) l := by
  have key : ∀ (n : Nat) (l : MapL), statL f n l = ((List.range n).map fun k => zOf f (n - 1 - k)).foldl (fun l x => mput l [.val (.int .i64 x.v), .val (.int .u64 x.m)] [.val (.int .i64 x.p)]) l := by
    intro n
    induction n with
    | zero => intro l; rfl
    | succ n ih =>
      intro l
      rw [List.range_succ_eq_map, List.map_cons, List.foldl_cons, List.map_map]
      show statL f n _ = _
      rw [ih]
      have : (fun k => zOf f (n - 1 - k)) = ((fun k => zOf f (n + 1 - 1 - k)) ∘ Nat.succ) := funext fun k => by
        show zOf f (n - 1 - k) = zOf f (n + 1 - 1 - (k + 1))
        congr 1; omega
      rw [this]; rfl
  intro n l
  rw [key]
  unfold Sta.upto
  rw [List.foldl_map, List.foldl_map]
  rfl
def kStat : CK := .int .u64 (.int .i64 (.int .i64 .nil))
def statSm : Sm := fun args hs => match args, hs with
  | [.v (.c (.ptr 0 0)), .v (.c (.own i))], .cells false [c0, c1, c2] :: rest => match (AObj.cells false [c0, c1, c2] :: rest)[i]? with
    | some (.parr ro nl k 3 n f) => bif ckEq k kStat then some fun kk => bif Nat.ble (n * 24) bound then kk (.tup []) (.cells false [c0, .mp (rest.length + 1), c2] :: (rest ++ [.mapo Sta.kz true Sta.vcz 1 false (statL f n [])])) else none else none
    | _ => none
  | [.v (.c (.ptr 0 0)), .v (.c (.pv (.sl nl k 3 n f)))], .cells false [c0, c1, c2] :: rest =>
    bif ckEq k kStat then some fun kk => bif Nat.ble (n * 24) bound then kk (.tup []) (.cells false [c0, .mp (rest.length + 1), c2] :: (rest ++ [.mapo Sta.kz true Sta.vcz 1 false (statL f n [])])) else none else none
  | _, _ => none
theorem ro_keep {E E' : Env} (ev : Ev E E') {id : Nat} {o : AObj} (hι : E'.ι id = E.ι id) (hw : blkd o = true → E'.w.heap[E.ι id]? = E.w.heap[E.ι id]?) (h : RO E id o) : RO E' id o := by
  cases o with
  | dead => trivial
  | cells ro l =>
    obtain ⟨cs, ⟨T, fr, hq, hf⟩, hrl, hro⟩ := h
    exact ⟨cs, ⟨T, fr, by rw [hι]; exact (hw rfl).trans hq, hf⟩, hrl.mono fun _ _ h => RC.mono ev h, fun h => by rw [hι]; exact ev.s _ (hro h)⟩
  | parr ro nl k e n f =>
    refine ⟨h.1, h.2.imp (fun h => h) fun ⟨hn, cs, ⟨T, fr, hq, hf⟩, hsz, hrow, hrs⟩ => ?_⟩
    subst hn
    exact ⟨rfl, cs, ⟨T, fr, by rw [hι]; exact (hw rfl).trans hq, hf⟩, hsz, fun j hj c hc => let ⟨y, a1, a2⟩ := hrow j hj c hc; ⟨y, a1, RP.mono ev.s ev.c a2⟩, fun h => by rw [hι]; exact ev.s _ (hrs h)⟩
  | mapo kz ka vc vs va l =>
    obtain ⟨es, cl, hq, hrl, hst⟩ := h
    exact ⟨es, cl, by rw [hι]; exact (hw rfl).trans hq, hrl.mono fun _ _ h => ME.mono ev h, hst⟩
theorem ro_low {E : Env} {id : Nat} {o : AObj} (h : RO E id o) (hl : blkd o = true) : E.ι id < E.w.heap.size := by
  cases o with
  | dead => cases hl
  | cells ro l => obtain ⟨cs, ⟨T, fr, hq, _⟩, _⟩ := h; exact (Array.getElem?_eq_some_iff.1 hq).1
  | parr ro nl k e n f =>
    rcases h.2 with ⟨h, _⟩ | ⟨_, cs, ⟨T, fr, hq, _⟩, _⟩
    · subst h; cases hl
    · exact (Array.getElem?_eq_some_iff.1 hq).1
  | mapo kz ka vc vs va l => obtain ⟨es, cl, hq, _⟩ := h; exact (Array.getElem?_eq_some_iff.1 hq).1
/-- the state behind the call -/
theorem stat_env {E : Env} (hE : E.ok) {c0 c1 c2 : CV} {rest : List AObj} (hH : ∀ id, E.H id = (AObj.cells false [c0, c1, c2] :: rest)[id]?) {w' : World} {L : MapL} {x0 x1 x2 : Value} {T : TypeId} {fr : Nat × Nat}
    (hb : E.w.heap[E.ι 0]? = some (.cells #[x0, x1, x2] T fr)) (hfr : FrOk 3 fr) (hr0 : RC E c0 x0) (hr2 : RC E c2 x2)
    (g1 : ∀ b, b < E.w.heap.size → b ≠ E.ι 0 → w'.heap[b]? = E.w.heap[b]?) (g2 : w'.heap[E.ι 0]? = some (.cells #[x0, .map (some (E.w.heap.size + 1)), x2] T fr))
    (hos : w'.os = E.w.os) (htape : w'.tape = E.w.tape) (hout : w'.output = E.w.output) (hsize : E.w.heap.size + 3 ≤ w'.heap.size)
    (hm : ∃ es cl, w'.heap[E.w.heap.size + 1]? = some (.map es cl) ∧ RL Sta.ER L es.toList ∧ Stm es cl) :
    ∃ E' : Env, E'.w = w' ∧ E'.ok ∧ (∀ id, E'.H id = (AObj.cells false [c0, .mp (rest.length + 1), c2] :: (rest ++ [.mapo Sta.kz true Sta.vcz 1 false L]))[id]?) ∧ EvM (AObj.cells false [c0, c1, c2] :: rest).length E E' := by
  obtain ⟨es, cl, hm1, hm2, hm3⟩ := hm
  have h0 : E.H 0 = some (.cells false [c0, c1, c2]) := by rw [hH]; rfl
  have hlt : E.ι 0 < E.w.heap.size := (Array.getElem?_eq_some_iff.1 hb).1
  have apart : ∀ id o, id ≠ 0 → E.H id = some o → blkd o = true → E.ι id ≠ E.ι 0 := fun id o hne ho hl e => hE.inj 0 id _ _ h0 ho rfl hl (Ne.symm hne) e.symm
  let E' : Env := ⟨fun id => if id = rest.length + 1 then E.w.heap.size + 1 else E.ι id, fun id => (AObj.cells false [c0, .mp (rest.length + 1), c2] :: (rest ++ [.mapo Sta.kz true Sta.vcz 1 false L]))[id]?, E.D, w'⟩
  have e0 : E'.H 0 = some (.cells false [c0, .mp (rest.length + 1), c2]) := rfl
  have eN : E'.H (rest.length + 1) = some (.mapo Sta.kz true Sta.vcz 1 false L) := by
    show (AObj.cells false [c0, .mp (rest.length + 1), c2] :: (rest ++ [.mapo Sta.kz true Sta.vcz 1 false L]))[rest.length + 1]? = _
    rw [List.getElem?_cons_succ, List.getElem?_append_right (Nat.le_refl _), Nat.sub_self]; rfl
  have up : ∀ id o, id ≠ 0 → E.H id = some o → id ≠ rest.length + 1 ∧ E'.H id = some o := fun id o hne ho => by
    obtain ⟨j, rfl⟩ : ∃ j, id = j + 1 := ⟨id - 1, by omega⟩
    rw [hH, List.getElem?_cons_succ] at ho
    have hj := (List.getElem?_eq_some_iff.1 ho).1
    refine ⟨by omega, ?_⟩
    show (AObj.cells false [c0, .mp (rest.length + 1), c2] :: (rest ++ [.mapo Sta.kz true Sta.vcz 1 false L]))[j + 1]? = _
    rw [List.getElem?_cons_succ, List.getElem?_append_left hj]; exact ho
  have down : ∀ id o, id ≠ 0 → id ≠ rest.length + 1 → E'.H id = some o → E.H id = some o := fun id o hne hN ho => by
    obtain ⟨j, rfl⟩ : ∃ j, id = j + 1 := ⟨id - 1, by omega⟩
    have ho' : (AObj.cells false [c0, .mp (rest.length + 1), c2] :: (rest ++ [.mapo Sta.kz true Sta.vcz 1 false L]))[j + 1]? = some o := ho
    rw [List.getElem?_cons_succ] at ho'
    have hj := (List.getElem?_eq_some_iff.1 ho').1
    simp at hj
    rw [List.getElem?_append_left (by omega)] at ho'
    rw [hH, List.getElem?_cons_succ]; exact ho'
  have iO : ∀ id, id ≠ rest.length + 1 → E'.ι id = E.ι id := fun id h => if_neg h
  have iN : E'.ι (rest.length + 1) = E.w.heap.size + 1 := if_pos rfl
  have hS : ∀ b, E.S b → b ≠ E.ι 0 := fun b hb => (hb.2.2 0 _ h0 rfl).symm
  have hw : ∀ id o, id ≠ 0 → E.H id = some o → blkd o = true → w'.heap[E.ι id]? = E.w.heap[E.ι id]? := fun id o hne ho hl => g1 _ (ro_low (hE.obj id o ho) hl) (apart id o hne ho hl)
  have ev : Ev E E' := by
    refine ⟨fun b hb => ⟨by show b < w'.heap.size; have := hb.1; omega, hb.2.1, fun id o ho hr => ?_⟩, fun b hb => g1 b hb.1 (hS b hb), fun id o ho => ?_, fun id o ho => ?_, fun id o o' cs ho ho' hl hbk => ?_⟩
    · by_cases h1 : id = 0
      · subst h1; rw [iO 0 (by omega)]; exact fun e => hS b hb e.symm
      · by_cases h2 : id = rest.length + 1
        · subst h2; rw [iN]; have := hb.1; omega
        · rw [iO id h2]; exact hb.2.2 id o (down id o h1 h2 ho) hr
    · by_cases h1 : id = 0
      · subst h1; exact iO 0 (by omega)
      · exact iO id (up id o h1 ho).1
    · by_cases h1 : id = 0
      · subst h1; rw [h0] at ho; cases ho; exact ⟨_, e0, rfl, fun _ => rfl⟩
      · exact ⟨o, (up id o h1 ho).2, by cases o <;> simp [Ve.shape], fun ⟨_, _, e⟩ => by subst e; rfl⟩
    · by_cases h1 : id = 0
      · subst h1
        obtain ⟨T', fr', hq, hf⟩ := hbk
        rw [hb] at hq; cases hq
        exact ⟨#[x0, .map (some (E.w.heap.size + 1)), x2], ⟨T, fr, by rw [iO 0 (by omega)]; exact g2, hf⟩, rfl⟩
      · obtain ⟨h2, h3⟩ := up id o h1 ho
        rw [h3] at ho'; cases ho'
        obtain ⟨T', fr', hq, hf⟩ := hbk
        exact ⟨cs, ⟨T', fr', by rw [iO id h2]; exact (hw id _ h1 ho hl).trans hq, hf⟩, rfl⟩
  refine ⟨E', rfl, ⟨fun id o ho => ?_, fun i j oi oj hi hj hr hbl hne => ?_, fun i o ho hr => ?_, fun b hb => ?_, hE.gl.mono ev.s ev.c⟩, fun id => rfl, ⟨ev.s, ev.c, rfl, fun b hb => g1 b (hE.dom b hb) (fun e => hE.out 0 _ h0 rfl (e ▸ hb)), hos, htape, hout, by show E.w.heap.size ≤ w'.heap.size; omega, fun id _ => ev.i id, fun id _ => ev.h id, fun id _ => ev.z id⟩⟩
  · by_cases h1 : id = 0
    · subst h1
      rw [e0] at ho; cases ho
      exact ⟨#[x0, .map (some (E.w.heap.size + 1)), x2], ⟨T, fr, by rw [iO 0 (by omega)]; exact g2, hfr⟩, .cons (RC.mono ev hr0) (.cons (by simp only [RC, eN]; rw [iN]) (.cons (RC.mono ev hr2) .nil)), fun h => by cases h⟩
    · by_cases h2 : id = rest.length + 1
      · subst h2
        rw [eN] at ho; cases ho
        exact ⟨es, cl, by rw [iN]; exact hm1, hm2.mono fun _ _ h => h.me, hm3⟩
      · have ho' := down id o h1 h2 ho
        exact ro_keep ev (iO id h2) (hw id o h1 ho') (hE.obj id o ho')
  · have cI : ∀ k o, E'.H k = some o → blkd o = true → k ≠ rest.length + 1 → E'.ι k = E.ι k ∧ E.ι k < E.w.heap.size ∧ ∃ o1, E.H k = some o1 ∧ rw o1 = rw o ∧ blkd o1 = blkd o := fun k o hk hl h2 => by
      by_cases h1 : k = 0
      · subst h1; rw [e0] at hk; cases hk; exact ⟨iO 0 h2, hlt, _, h0, rfl, rfl⟩
      · have ho' := down k o h1 h2 hk
        exact ⟨iO k h2, ro_low (hE.obj k o ho') hl, o, ho', rfl, rfl⟩
    by_cases hiN : i = rest.length + 1
    · by_cases hjN : j = rest.length + 1
      · exact absurd (hiN.trans hjN.symm) hne
      · obtain ⟨a1, a2, _⟩ := cI j oj hj hbl hjN
        rw [a1, hiN, iN]; omega
    · obtain ⟨b1, b2, o1, b3, b4, b5⟩ := cI i oi hi (rw_blkd hr) hiN
      by_cases hjN : j = rest.length + 1
      · rw [b1, hjN, iN]; omega
      · obtain ⟨a1, a2, o2, a3, a4, a5⟩ := cI j oj hj hbl hjN
        rw [a1, b1]
        exact hE.inj i j o1 o2 b3 a3 (b4.trans hr) (a5.trans hbl) hne
  · by_cases h1 : i = 0
    · subst h1; rw [iO 0 (by omega)]; exact hE.out 0 _ h0 rfl
    · by_cases h2 : i = rest.length + 1
      · subst h2; rw [iN]; exact fun hd => by have := hE.dom _ hd; omega
      · rw [iO i h2]; exact hE.out i o (down i o h1 h2 ho) hr
  · have := hE.dom b hb; show b < w'.heap.size; omega
/-- the call, once the slice is known -/
theorem stat_run {E : Env} (hE : E.ok) {c0 c1 c2 : CV} {rest : List AObj} (hH : ∀ id, E.H id = (AObj.cells false [c0, c1, c2] :: rest)[id]?) {n : Nat} {f : Nat → Nat → PV} (hbd : n * 24 ≤ 35184372088832) {v0 v1 : Value} (hx : RA E (.v (.c (.ptr 0 0))) v0)
    (hv : ∃ a cap, v1 = Value.slice a n cap ∧ Sta.Holds E.w.heap.size (E.ι 0) E.w (.slice a n cap) n (zOf f)) :
    Calls Try.prog 32 #[v0, v1] E.w fun e w' => ∃ x E', e = .returned x ∧ E'.w = w' ∧ E'.ok ∧ (∀ id, E'.H id = (AObj.cells false [c0, .mp (rest.length + 1), c2] :: (rest ++ [.mapo Sta.kz true Sta.vcz 1 false (statL f n [])]))[id]?) ∧ RA E' (.tup []) x ∧ EvM (AObj.cells false [c0, c1, c2] :: rest).length E E' := by
  have h0 : E.H 0 = some (.cells false [c0, c1, c2]) := by rw [hH]; rfl
  simp only [RA, RV, RC, h0] at hx
  subst hx
  obtain ⟨cs, ⟨T, fr, hb, hfr⟩, hrl, _⟩ := hE.obj 0 _ h0
  generalize hcl : cs.toList = cl at hrl
  cases hrl with
  | @cons _ x0 _ _ r0 hrl =>
  cases hrl with
  | @cons _ x1 _ _ r1 hrl =>
  cases hrl with
  | @cons _ x2 _ _ r2 hrl =>
  cases hrl
  obtain rfl : cs = #[x0, x1, x2] := by apply Array.ext'; rw [hcl]
  have hlt : E.ι 0 < E.w.heap.size := (Array.getElem?_eq_some_iff.1 hb).1
  obtain ⟨a, cap, rfl, hH'⟩ := hv
  obtain ⟨cs', k1, k2⟩ := setCells_spec (E.ι 0) [.map (some (E.w.heap.size + 1))] 1 E.w #[x0, x1, x2] T fr hb (by simp)
  obtain rfl : cs' = #[x0, .map (some (E.w.heap.size + 1)), x2] := by apply Array.ext'; rw [k2]; rfl
  refine Calls.mono (callsIn_wide.1 (Sta.statics_in Fence.wide 3 trivial trivial trivial rfl (by omega) (E.ι 0) a n cap (zOf f) (by omega) E.w x1 hlt (by simp [World.cell?, hb]) (by
    have := hfr.2 1 (by simp; omega)
    simp only [World.frozen?, hb]
    simp
    omega) hH')) fun e w' ⟨he, g1, g2, hos, htape, hout, hsize, es, cl, hm, hl⟩ => ?_
  obtain ⟨E', q1, q2, q3, q4⟩ := stat_env (L := statL f n []) hE hH hb hfr r0 r2 g1 (g2.trans k1) hos htape hout hsize ⟨es, cl, hm, by rw [statL_build]; exact hl.1, hl.2⟩
  exact ⟨_, E', he, q1, q2, q3, ⟨#[], rfl, .nil⟩, q4⟩
/-- the slice's cells -/
theorem stat_cells {E : Env} {n : Nat} {f : Nat → Nat → PV} (hk : RowK kStat n f) {b o : Nat} (h : ∀ j, j < n → ∀ c, c < 3 → ∃ y, E.w.cell? ⟨b, o + j * 3 + c, none⟩ = some y ∧ RP E.S E.w (f j c) y) : Sta.Cells E.w b o n (zOf f) := fun j hj => by
  obtain ⟨m0, k0⟩ : ∃ m, f j 0 = .val (.int .u64 m) := hk j hj 0
  obtain ⟨m1, k1⟩ : ∃ m, f j 1 = .val (.int .i64 m) := hk j hj 1
  obtain ⟨m2, k2⟩ : ∃ m, f j 2 = .val (.int .i64 m) := hk j hj 2
  obtain ⟨y0, a0, b0⟩ := h j hj 0 (by omega)
  obtain ⟨y1, a1, b1⟩ := h j hj 1 (by omega)
  obtain ⟨y2, a2, b2⟩ := h j hj 2 (by omega)
  rw [k0] at b0
  rw [k1] at b1
  rw [k2] at b2
  obtain ⟨rfl, _⟩ := b0
  obtain ⟨rfl, _⟩ := b1
  obtain ⟨rfl, _⟩ := b2
  simp only [zOf, k0, k1, k2, numOf]
  exact ⟨a0, a1, a2⟩
theorem stat_ok : SumOk Try.prog 32 statSm := by
  intro args hs G hG
  unfold statSm at hG
  split at hG
  · rename_i i c0 c1 c2 rest
    split at hG
    · rename_i ro nl k n f hi
      obtain ⟨hck, hG⟩ := cond_some hG
      obtain rfl := ckEq_eq hck
      injection hG with hG
      subst hG
      intro kk r hg
      obtain ⟨hok, hg⟩ := cond_some hg
      refine ⟨_, _, hg, fun k' => by show (bif Nat.ble (n * 24) bound then _ else _) = _; rw [hok, cond_true], ⟨⟨_, Try.func32, by kernel_rfl, by kernel_rfl⟩, fun E vals hE hH hr => ?_⟩⟩
      have hbd := Nat.le_of_ble_eq_true hok
      unfold bound at hbd
      have h0 : E.H 0 = some (.cells false [c0, c1, c2]) := by rw [hH]; rfl
      have h1 : E.H i = some (.parr ro nl kStat 3 n f) := by rw [hH]; exact hi
      have hi0 : i ≠ 0 := fun e => by subst e; rw [h0] at h1; cases h1
      cases hr with
      | cons hx hr =>
      cases hr with
      | cons hy hr =>
      cases hr
      simp only [RA, RV, RC, h1] at hy
      obtain ⟨hkf, hrow1⟩ := hE.obj i _ h1
      refine stat_run hE hH hbd hx ?_
      obtain ⟨_, ⟨rfl, rfl, hv⟩ | ⟨rfl, cap, cs1, hv, hnc, _, hcap⟩⟩ := hy
      · exact ⟨none, 0, hv, .inl ⟨rfl, _, _, rfl⟩⟩
      · obtain ⟨cs2, ⟨T2, fr2, hq2, _⟩, hsz, hrow, _⟩ : ∃ cs2, E.blk i cs2 ∧ n * 3 ≤ cs2.size ∧ (∀ j, j < n → ∀ c, c < 3 → ∃ y, cs2[j * 3 + c]? = some y ∧ RP E.S E.w (f j c) y) ∧ (ro = true → E.S (E.ι i)) := by
          rcases hrow1 with ⟨h, _⟩ | ⟨_, h⟩
          · cases h
          · exact h
        refine ⟨_, cap, hv, .inr ⟨E.ι i, 0, cap, rfl, (Array.getElem?_eq_some_iff.1 hq2).1, fun e => hE.inj 0 i _ _ h0 h1 rfl rfl (Ne.symm hi0) e.symm, stat_cells hkf fun j hj c hc => ?_⟩⟩
        obtain ⟨y, a1, a2⟩ := hrow j hj c hc
        exact ⟨y, by simp only [World.cell?, hq2, Nat.zero_add]; exact a1, a2⟩
    · cases hG
  · rename_i nl k n f c0 c1 c2 rest
    obtain ⟨hck, hG⟩ := cond_some hG
    obtain rfl := ckEq_eq hck
    injection hG with hG
    subst hG
    intro kk r hg
    obtain ⟨hok, hg⟩ := cond_some hg
    refine ⟨_, _, hg, fun k' => by show (bif Nat.ble (n * 24) bound then _ else _) = _; rw [hok, cond_true], ⟨⟨_, Try.func32, by kernel_rfl, by kernel_rfl⟩, fun E vals hE hH hr => ?_⟩⟩
    have hbd := Nat.le_of_ble_eq_true hok
    unfold bound at hbd
    have h0 : E.H 0 = some (.cells false [c0, c1, c2]) := by rw [hH]; rfl
    cases hr with
    | cons hx hr =>
    cases hr with
    | cons hy hr =>
    cases hr
    refine stat_run hE hH hbd hx ?_
    obtain ⟨hkf, ad, cap, hv, hnc, hnl, hnil, hreal⟩ := hy
    by_cases hn : 0 < n
    · obtain ⟨b, o, rfl, hS, hrow⟩ := hreal hn
      exact ⟨_, cap, hv, .inr ⟨b, o, cap, rfl, hS.1, (hS.2.2 0 _ h0 rfl).symm, stat_cells hkf hrow⟩⟩
    · obtain rfl : n = 0 := by omega
      exact ⟨ad, cap, hv, .inl ⟨rfl, _, _, rfl⟩⟩
  · cases hG
end Go.Proofs.Ytijabmpcicddbaa

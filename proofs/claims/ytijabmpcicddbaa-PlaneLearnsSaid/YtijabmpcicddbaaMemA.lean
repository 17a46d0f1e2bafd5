/- A range over a map whose entries are told one by one: laws at the operations; numbers put in order. -/
import Derived.Test.YtijabmpcicddbaaVe37
import Derived.Sort.MapsRangeIn
import Derived.Sort.OwnSortedInts
set_option linter.unusedVariables false
set_option linter.unusedSimpArgs false
namespace Go.Proofs.Ytijabmpcicddbaa.Mem
open Go.RowKit Go.Proofs Go.ChangeMaps
open Go.Ve (Stm)
/-- a range over a map under way: what has come out so far -/
structure Rng (w : World) (b r : Nat) (es : Array MapEntry) (cl : Nat) (σ : List MapEntry) : Prop where
  m : w.heap[b]? = some (.map es cl)
  i : ∃ since seen c0, w.heap[r]? = some (.mapIter (some b) since seen c0) ∧ (∀ x ∈ es.toList, x.born < since) ∧ since ≤ c0 ∧ since ≤ cl ∧ seen.toList = σ.map (·.born)
  s : ∀ x ∈ σ, x ∈ es.toList
  n : (σ.map (·.born)).Nodup
theorem Rng.ne {w : World} {b r : Nat} {es : Array MapEntry} {cl : Nat} {σ : List MapEntry} (h : Rng w b r es cl σ) : r ≠ b := by
  obtain ⟨_, _, _, hr, _⟩ := h.i
  intro e
  rw [e, h.m] at hr
  cases hr
theorem Rng.kept {w w' : World} {b r : Nat} {es : Array MapEntry} {cl : Nat} {σ : List MapEntry} {row : Option Nat} (h : Rng w b r es cl σ) (hg : w.grownBy w' row) (hb : some b ≠ row) (hr : some r ≠ row) : Rng w' b r es cl σ := by
  obtain ⟨since, seen, c0, h1, h2⟩ := h.i
  exact ⟨(hg.block b (Array.getElem?_eq_some_iff.1 h.m).1 hb).trans h.m, ⟨since, seen, c0, (hg.block r (Array.getElem?_eq_some_iff.1 h1).1 hr).trans h1, h2⟩, h.s, h.n⟩
theorem Rng.lt {w : World} {b r : Nat} {es : Array MapEntry} {cl : Nat} {σ : List MapEntry} (h : Rng w b r es cl σ) : b < w.heap.size ∧ r < w.heap.size := by
  obtain ⟨_, _, _, hr, _⟩ := h.i
  exact ⟨(Array.getElem?_eq_some_iff.1 h.m).1, (Array.getElem?_eq_some_iff.1 hr).1⟩
theorem Rng.left {w w' : World} {b r : Nat} {es : Array MapEntry} {cl : Nat} {σ : List MapEntry} {row : Option Nat} (h : Rng w b r es cl σ) (hg : w.grownBy w' row) (hb : some b ≠ row) (hr : some r ≠ row) : w'.rangeLeft b r = w.rangeLeft b r := by
  unfold World.rangeLeft
  rw [hg.block b h.lt.1 hb, hg.block r h.lt.2 hr]
theorem nodup_of_map {α β : Type} (f : α → β) : ∀ {l : List α}, (l.map f).Nodup → l.Nodup
  | [], _ => List.nodup_nil
  | a :: l, h => by
    rw [List.map_cons, List.nodup_cons] at h
    exact List.nodup_cons.2 ⟨fun ha => h.1 (List.mem_map.2 ⟨a, ha, rfl⟩), nodup_of_map f h.2⟩
theorem length_le_nodup : ∀ {l m : List Nat}, l.Nodup → (∀ a ∈ l, a ∈ m) → l.length ≤ m.length
  | [], m, _, _ => Nat.zero_le _
  | a :: l, m, hn, hs => by
    obtain ⟨h1, h2⟩ := List.nodup_cons.1 hn
    have ha := hs a (by simp)
    have := length_le_nodup (l := l) (m := m.erase a) h2 fun b hb => (List.mem_erase_of_ne (fun e : b = a => h1 (by rw [← e]; exact hb))).2 (hs b (by simp [hb]))
    rw [List.length_erase_of_mem ha] at this
    have := List.length_pos_of_mem ha
    simp only [List.length_cons]
    omega
theorem Rng.len {w : World} {b r : Nat} {es : Array MapEntry} {cl : Nat} {σ : List MapEntry} (h : Rng w b r es cl σ) : σ.length ≤ es.size := by
  have := length_le_nodup h.n (m := es.toList.map (·.born)) fun a ha => by
    obtain ⟨x, hx, rfl⟩ := List.mem_map.1 ha
    exact List.mem_map.2 ⟨x, h.s x hx, rfl⟩
  simpa using this
theorem perm_of_born {es σ : List MapEntry} (hn : (es.map (·.born)).Nodup) (hs : ∀ x ∈ σ, x ∈ es) (hσ : (σ.map (·.born)).Nodup) (ha : ∀ x ∈ es, x.born ∈ σ.map (·.born)) : σ.Perm es := by
  refine (List.perm_ext_iff_of_nodup (nodup_of_map _ hσ) (nodup_of_map _ hn)).2 fun x => ⟨hs x, fun hx => ?_⟩
  obtain ⟨y, hy, hyx⟩ := List.mem_map.1 (ha x hx)
  rw [← born_inj hn (hs y hy) hx hyx]
  exact hy
section
variable {F : Fence} {n : Nat} {P : Program} (w : World) {ops : Array Oper} {rest : List Oper} {o : Oper} {a : Act} {Q : Exit → Act → World → Prop}
theorem wpListIn_range_raw (hg : o.guard = none) (m : Operand) (t : TypeId) (hop : o.op = Op.range t m) (k e : TypeId) (ht : P.underlying t = some (.map k e)) (b : Nat) (es : Array MapEntry) (cl : Nat)
    (hm : a.eval m = .map (some b)) (hb : w.heap[b]? = some (.map es cl)) (hst : Stm es cl)
    (hK : ∀ w', Rng w' b w.heap.size es cl [] → w.grownBy w' none → w'.heap.size = w.heap.size + 1 → wpListIn F n P ops Q rest (a.put o.dst (.pointer (some ⟨w.heap.size, 0, none⟩))) w') :
    wpListIn F n P ops Q (o :: rest) a w := by
  refine wpListIn_plain hg fun K' hK' => ?_
  have hlt := (Array.getElem?_eq_some_iff.1 hb).1
  have hrun := run_range_map (P := P) w t k e b es cl ht hb
  unfold Oper.wpIn
  refine ⟨by simp [Oper.about, hop], ?_⟩
  rw [Oper.semAt_plain F _ _ (by rw [hop]; intro c hc'; cases hc')]
  simp [execOp, hop, hm, hrun, Result.andThen]
  exact hK' _ _ (hK _ ⟨((MapKept.heap_alloc w _).2 b hlt).trans hb, ⟨cl, #[], cl, (MapKept.heap_alloc w _).1, hst.1, Nat.le_refl _, Nat.le_refl _, rfl⟩, fun x hx => absurd hx List.not_mem_nil, List.nodup_nil⟩ (World.grownBy_alloc w _ none) (by simp))
theorem wpListIn_next_raw (hg : o.guard = none) (it : Operand) (hop : o.op = Op.next it false) (b r : Nat) (es : Array MapEntry) (cl : Nat) (σ : List MapEntry)
    (hit : a.eval it = .pointer (some ⟨r, 0, none⟩)) (h : Rng w b r es cl σ) (hst : Stm es cl)
    (hDone : σ.Perm es.toList → wpListIn F n P ops Q rest (a.put o.dst (.tuple #[.bool false])) w)
    (hMore : ∀ e ∈ es.toList, ∀ w', Rng w' b r es cl (σ ++ [e]) → w.grownBy w' (some r) → w'.heap.size = w.heap.size → (Instr.entry (.pointer (some ⟨r, 0, none⟩))).run P w' = .ok (.tuple #[e.key, e.val]) w' → w'.rangeLeft b r < w.rangeLeft b r →
      wpListIn F n P ops Q rest (a.put o.dst (.tuple #[.bool true, e.key, e.val])) w') :
    wpListIn F n P ops Q (o :: rest) a w := by
  refine wpListIn_plain hg fun K' hK' => ?_
  have hne := h.ne
  obtain ⟨since, seen, c0, hr, hold, hsc, hsk, hseen⟩ := h.i
  have hb := h.m
  unfold Oper.wpIn
  refine ⟨by simp [Oper.about, hop], ?_⟩
  rw [Oper.semAt_plain F _ _ (by rw [hop]; intro c hc'; cases hc')]
  rcases run_next_at (P := P) w o.type r b since c0 seen es cl hr hb hold hsc with ⟨h0, hrun⟩ | ⟨e, he, w1, hal, hrun⟩
  · simp [execOp, hop, hit, hrun, Result.andThen]
    refine hK' _ _ (hDone (perm_of_born hst.2 h.s h.n fun x hx => ?_))
    have := all_seen es seen h0 x hx
    rw [← hseen]
    simpa using this
  · obtain ⟨hem, hes⟩ := mem_left he
    have hr1 : w1.heap[r]? = some (.mapIter (some b) since seen c0) := by rcases hal with rfl | rfl <;> exact hr
    have hb1 : w1.heap[b]? = some (.map es cl) := by rcases hal with rfl | rfl <;> exact hb
    have hset := MapKept.heap_set (o' := .mapIter (some b) since (seen.push e.born) cl) hr1
    have hb' : (setBlock w1 r (.mapIter (some b) since (seen.push e.born) cl)).heap[b]? = some (.map es cl) := (hset.2 b (fun e1 => hne e1.symm)).trans hb1
    simp [execOp, hop, hit, hrun, Result.andThen]
    refine hK' _ _ (hMore e hem _ ⟨hb', ⟨since, seen.push e.born, cl, hset.1, hold, hsk, hsk, by rw [Array.toList_push, hseen, List.map_append]; rfl⟩, fun x hx => ?_, ?_⟩ ?_ ?_ (run_entry_at _ r b since seen es cl e hset.1 hb' hem hst.2) ?_)
    · rcases List.mem_append.1 hx with hx | hx
      · exact h.s x hx
      · rw [List.mem_singleton.1 hx]; exact hem
    · rw [List.map_append, List.nodup_append]
      refine ⟨h.n, by simp, fun x hx y hy => ?_⟩
      simp only [List.map_cons, List.map_nil, List.mem_singleton] at hy
      subst hy
      intro hxe
      rw [hxe, ← hseen] at hx
      have : seen.contains e.born = true := by simpa using hx
      rw [hes] at this
      cases this
    · rcases hal with rfl | rfl <;> exact ⟨rfl, rfl, rfl, by simp [setBlock], fun i _ hi => hset.2 i (fun e1 => hi (by rw [e1]))⟩
    · rcases hal with rfl | rfl <;> simp [setBlock]
    · have hs1 := hset.1
      show World.rangeLeft (setBlock w1 r _) b r < _
      unfold World.rangeLeft setBlock at *
      rw [hb', hs1, hb, hr]
      exact left_shrinks es seen e he
end
/-! ### numbers in order -/
def insI (x : Int) : List Int → List Int
  | [] => [x]
  | y :: l => bif decide (x ≤ y) then x :: y :: l else y :: insI x l
def sortI : List Int → List Int
  | [] => []
  | x :: l => insI x (sortI l)
theorem insI_perm (x : Int) : ∀ l : List Int, (insI x l).Perm (x :: l)
  | [] => List.Perm.refl _
  | y :: l => by
    unfold insI
    cases decide (x ≤ y) with
    | true => exact List.Perm.refl _
    | false => exact ((insI_perm x l).cons y).trans (List.Perm.swap x y l)
theorem sortI_perm : ∀ l : List Int, (sortI l).Perm l
  | [] => List.Perm.refl _
  | x :: l => (insI_perm x (sortI l)).trans ((sortI_perm l).cons x)
theorem insI_sorted (x : Int) : ∀ {l : List Int}, l.Pairwise (· ≤ ·) → (insI x l).Pairwise (· ≤ ·)
  | [], _ => by simp [insI]
  | y :: l, h => by
    obtain ⟨h1, h2⟩ := List.pairwise_cons.1 h
    unfold insI
    by_cases hx : x ≤ y
    · rw [decide_eq_true hx, cond_true]
      refine List.pairwise_cons.2 ⟨fun z hz => ?_, h⟩
      rcases List.mem_cons.1 hz with rfl | hz
      · exact hx
      · exact Int.le_trans hx (h1 z hz)
    · rw [decide_eq_false hx, cond_false]
      refine List.pairwise_cons.2 ⟨fun z hz => ?_, insI_sorted x h2⟩
      rcases List.mem_cons.1 ((insI_perm x l).mem_iff.1 hz) with rfl | hz
      · omega
      · exact h1 z hz
theorem sortI_sorted : ∀ l : List Int, (sortI l).Pairwise (· ≤ ·)
  | [] => List.Pairwise.nil
  | x :: l => insI_sorted x (sortI_sorted l)
theorem sorted_uniq {a b : List Int} (h : a.Perm b) (ha : a.Pairwise (· ≤ ·)) (hb : b.Pairwise (· ≤ ·)) : a = b := h.eq_of_pairwise (fun x y _ _ h1 h2 => Int.le_antisymm h1 h2) ha hb
theorem merge_eq {a b : List Int} (h : a.Perm b) : (a.mergeSort fun x y => decide (x ≤ y)) = sortI b := by
  refine sorted_uniq ((List.mergeSort_perm a _).trans (h.trans (sortI_perm b).symm)) ?_ (sortI_sorted b)
  have := List.pairwise_mergeSort (le := fun x y : Int => decide (x ≤ y)) (fun a b c h1 h2 => by simp at h1 h2 ⊢; omega) (fun a b => by simp; omega) a
  exact this.imp fun h => by simpa using h
/-! ### a new row of numbers in the evaluator's state -/
open Go.Ve in
theorem env_new {E : Env} (hE : E.ok) {os : List AObj} (hH : ∀ id, E.H id = os[id]?) {w' : World} (hb : Below E.w.heap.size E.w w') {g : Nat} (hg : E.w.heap.size ≤ g) {o : AObj} (hnew : ∀ E' : Env, E'.w = w' → E'.ι os.length = g → RO E' os.length o) :
    ∃ E', E'.w = w' ∧ E'.ok ∧ (∀ id, E'.H id = (os ++ [o])[id]?) ∧ E'.ι os.length = g ∧ EvM os.length E E' := by
  let E' : Env := ⟨fun id => if id = os.length then g else E.ι id, fun id => (os ++ [o])[id]?, E.D, w'⟩
  have eN : E'.H os.length = some o := by
    show (os ++ [o])[os.length]? = _
    rw [List.getElem?_append_right (Nat.le_refl _), Nat.sub_self]; rfl
  have iN : E'.ι os.length = g := if_pos rfl
  have iO : ∀ id, id ≠ os.length → E'.ι id = E.ι id := fun id h => if_neg h
  have up : ∀ id q, E.H id = some q → id ≠ os.length ∧ E'.H id = some q := fun id q hq => by
    rw [hH] at hq
    have hj := (List.getElem?_eq_some_iff.1 hq).1
    refine ⟨by omega, ?_⟩
    show (os ++ [o])[id]? = _
    rw [List.getElem?_append_left hj]; exact hq
  have down : ∀ id q, id ≠ os.length → E'.H id = some q → E.H id = some q := fun id q hne hq => by
    have hq' : (os ++ [o])[id]? = some q := hq
    have hj := (List.getElem?_eq_some_iff.1 hq').1
    simp at hj
    rw [List.getElem?_append_left (by omega)] at hq'
    rw [hH]; exact hq'
  have low : ∀ id q, E.H id = some q → blkd q = true → E.ι id < E.w.heap.size := fun id q hq hl => (hE.obj id q hq).lt hl
  have ev : Ev E E' := by
    refine ⟨fun b ⟨h1, h2, h3⟩ => ⟨Nat.lt_of_lt_of_le h1 hb.size, h2, fun id q hq hr => ?_⟩, fun b h => hb.block b h.1, fun id q hq => iO id (up id q hq).1, fun id q hq => ⟨q, (up id q hq).2, by cases q <;> simp [Ve.shape], fun ⟨_, _, e⟩ => by subst e; rfl⟩, fun id q q' cs hq hq' hl ⟨T, fr, hk, hf⟩ => ?_⟩
    · by_cases h : id = os.length
      · subst h; rw [iN]; omega
      · rw [iO id h]; exact h3 id q (down id q h hq) hr
    · obtain ⟨h1, h2⟩ := up id q hq
      rw [h2] at hq'; cases hq'
      exact ⟨cs, ⟨T, fr, by rw [iO id h1]; exact (hb.block _ (low id q hq hl)).trans hk, hf⟩, rfl⟩
  refine ⟨E', rfl, ⟨fun id q hq => ?_, fun i j oi oj hi hj hr hbl hne => ?_, fun i q hq hr => ?_, fun b h => Nat.lt_of_lt_of_le (hE.dom b h) hb.size, hE.gl.mono ev.s ev.c⟩, fun id => rfl, iN, ⟨ev.s, ev.c, rfl, fun b h => hb.block b (hE.dom b h), hb.os, hb.tape, hb.output, hb.size, fun id _ => ev.i id, fun id _ => ev.h id, fun id _ => ev.z id⟩⟩
  · by_cases h : id = os.length
    · subst h
      rw [eN] at hq; cases hq
      exact hnew E' rfl iN
    · have hq' := down id q h hq
      exact (hE.obj id q hq').mono ev hq' fun hl => hb.block _ (low id q hq' hl)
  · by_cases hiN : i = os.length
    · by_cases hjN : j = os.length
      · exact absurd (hiN.trans hjN.symm) hne
      · have := low j oj (down j oj hjN hj) hbl
        rw [hiN, iN, iO j hjN]; omega
    · have hi' := down i oi hiN hi
      have h1 := low i oi hi' (rw_blkd hr)
      by_cases hjN : j = os.length
      · rw [hjN, iN, iO i hiN]; omega
      · rw [iO i hiN, iO j hjN]
        exact hE.inj i j oi oj hi' (down j oj hjN hj) hr hbl hne
  · by_cases h : i = os.length
    · subst h; rw [iN]; exact fun hd => by have := hE.dom _ hd; omega
    · rw [iO i h]; exact hE.out i q (down i q h hq) hr
/-- numbers of a row -/
def rowI (zs : List Int) : Nat → Nat → Go.Ve.PV := fun j _ => .val (.int .i64 (zs.getD j 0))
open Go.Ve in
/-- a slice of numbers of the call's own, as an object -/
theorem row_ro {E' : Env} {id base e : Nat} {v : Value} {zs : List Int} (h : E'.w.ownsRow base e 1 v zs.length (zs.map (Value.int .i64))) (hnil : v = .slice none 0 0 ↔ zs = []) (hi : ∀ g, v.ownBlock = some g → E'.ι id = g) :
    RO E' id (.parr false (Nat.beq zs.length 0) (.int .i64 .nil) 1 zs.length (rowI zs)) ∧ (E'.H id = some (.parr false (Nat.beq zs.length 0) (.int .i64 .nil) 1 zs.length (rowI zs)) → RC E' (.own id) v) := by
  have hk : RowK (.int .i64 .nil) zs.length (rowI zs) := fun j hj c => by
    cases c with
    | zero => exact ⟨_, rfl⟩
    | succ c => rw [kDrop_succ]; show ckOk (kDrop .nil c) _; rw [kDrop_nil]; trivial
  rcases h.2 with ⟨hv, hn⟩ | ⟨g, cap, cur, hv, hbase, hblk, hcap, hmax, hsz, htake⟩
  · have hb : Nat.beq zs.length 0 = true := by rw [hn]; rfl
    refine ⟨⟨hk, .inl ⟨hb, hn⟩⟩, fun hH => ?_⟩
    simp only [RC, hH]
    exact ⟨Nat.le_refl _, .inl ⟨hb, hn, hv⟩⟩
  · have hne : zs ≠ [] := fun e => by rw [hnil.2 e] at hv; cases hv
    have hb : Nat.beq zs.length 0 = false := by
      cases zs with
      | nil => exact absurd rfl hne
      | cons => rfl
    have hg : E'.ι id = g := hi g (by rw [hv]; rfl)
    have hblk' : E'.blk id cur := ⟨e, (0, 0), by rw [hg]; exact hblk, Nat.le_refl _, fun j _ hj => by have := hj.2; exact absurd this (Nat.not_lt_zero j)⟩
    refine ⟨⟨hk, .inr ⟨hb, cur, hblk', by omega, fun j hj c hc => ?_, fun h => by cases h⟩⟩, fun hH => ?_⟩
    · obtain rfl : c = 0 := by omega
      have h1 : (cur.toList.take (zs.length * 1))[j]? = (zs.map (Value.int .i64))[j]? := by rw [htake]
      rw [List.getElem?_take_of_lt (by omega), List.getElem?_map, List.getElem?_eq_getElem hj] at h1
      refine ⟨_, by rw [Nat.mul_one, Nat.add_zero, ← Array.getElem?_toList]; exact h1, ?_⟩
      show RP E'.S E'.w (.val (.int .i64 (zs.getD j 0))) _
      rw [List.getD_eq_getElem?_getD, List.getElem?_eq_getElem hj]
      exact ⟨rfl, rfl⟩
    · simp only [RC, hH]
      exact ⟨Nat.le_refl _, .inr ⟨hb, cap, cur, by rw [hg]; exact hv, hcap, hblk', by omega⟩⟩
end Go.Proofs.Ytijabmpcicddbaa.Mem

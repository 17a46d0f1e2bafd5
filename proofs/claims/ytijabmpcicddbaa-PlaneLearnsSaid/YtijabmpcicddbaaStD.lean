/- (*Table).Statics: what the code does to the world. -/
import Derived.Test.YtijabmpcicddbaaStB
import Derived.Test.YtijabmpcicddbaaReg
import Derived.Sort.BigQuietIn
import Derived.RangeFuncCalls
import Derived.TacticsIn
import Derived.RegionIn
import Derived.Shelf.RegionOpen
set_option linter.unusedVariables false
set_option linter.unusedSimpArgs false
namespace Go.Proofs.Ytijabmpcicddbaa.Sta
open Go.RowKit Go.Shelf Go.Proofs
attribute [local go_sem] Oper.semAt_some
open Go.Ve (MapL mput PV RL) in
/-- the map's entries, one static behind the other -/
def build (l : List (Int × Z)) : MapL := l.foldl (fun l x => mput l [.val (.int .i64 x.2.v), .val (.int .u64 x.2.m)] [.val (.int .i64 x.2.p)]) []
theorem build_snoc (l : List (Int × Z)) (x : Int × Z) : build (l ++ [x]) = Go.Ve.mput (build l) [.val (.int .i64 x.2.v), .val (.int .u64 x.2.m)] [.val (.int .i64 x.2.p)] := by simp [build]
def Inv (n₀ mb : Nat) (w1 : World) (pre : List (Int × Z)) (W : World) : Prop := KB n₀ mb w1 W ∧ ∃ es cl, W.heap[mb]? = some (.map es cl) ∧ Go.Ve.RL ER (build pre) es.toList ∧ Go.Ve.Stm es cl
theorem KB.grown {n₀ mb : Nat} {A B C : World} {row : Option Nat} (h : KB n₀ mb A B) (hn : n₀ ≤ A.heap.size) (hg : B.grownBy C row) (hr : ∀ r, row = some r → n₀ ≤ r) : KB n₀ mb A C :=
  ⟨Nat.le_trans h.size hg.size, fun b h1 h2 => (hg.block b (by have := h.size; omega) (fun e => by have := hr b e.symm; omega)).trans (h.kept b h1 h2), hg.os.trans h.os, hg.tape.trans h.tape, hg.output.trans h.output⟩
theorem inv_own {n₀ mb : Nat} {w1 : World} (hn : n₀ = w1.heap.size) (hm : mb < n₀) : OwnFrom w1.heap.size (Inv n₀ mb w1) := fun pre W W' row ⟨hk, es, cl, he, hl⟩ hg hr =>
  ⟨hk.grown (Nat.le_of_eq hn) hg (fun r e => by rw [hn]; exact (hr r e).1), es, cl, (hg.block mb (by have := hk.size; omega) (fun e => by have := (hr mb e.symm).1; omega)).trans he, hl⟩
/-- what a round is given: the box of the static -/
def Given (T : Array Value) (x : Int × Z) (a' : Act) (W : World) : Prop := ∃ bx, a' = { tmps := ((T.setIfInBounds 14 (.int .i64 x.1)).setIfInBounds 15 x.2.agg).setIfInBounds 5 (.pointer (some ⟨bx, 0, none⟩)), defers := [] } ∧ W.heap[bx]? = some (.cells #[.int .u64 x.2.m, .int .i64 x.2.v, .int .i64 x.2.p] 87 (0, 0))
theorem given_own {B : Nat} (T : Array Value) (x : Int × Z) (a' : Act) : OwnFrom B (fun (_ : Unit) W => Given T x a' W) := fun _ W W' row ⟨bx, h1, h2⟩ hg hr => by
  refine ⟨bx, h1, (hg.block bx (Array.getElem?_eq_some_iff.1 h2).1 (fun e => ?_)).trans h2⟩
  obtain ⟨_, o, ho, hc⟩ := hr bx e.symm
  rw [h2] at ho
  cases ho
  cases hc
def frame (tb : Nat) (a : Option Addr) (len cap s : Nat) : Array Value := #[.pointer (some ⟨tb, 0, none⟩), .slice a len cap, .pointer (some ⟨s, 0, none⟩), undef, undef, undef, .pointer (some ⟨tb, 0, none⟩), .bool false, .pointer (some ⟨tb, 0, none⟩), .map (some (s + 1)), .pointer (some ⟨tb, 0, none⟩), .pointer (some ⟨tb, 1, none⟩), .slice a len cap, .func (.func 85) #[] #[.pointer (some ⟨s + 1 + 1, 0, none⟩)], undef, undef, undef, undef, undef, undef, undef, undef, undef, undef, undef, undef, undef]
set_option maxRecDepth 100000 in
set_option maxHeartbeats 2000000 in
theorem statics_in (F : Fence) (n : Nat) (h44 : F.fn 32) (h89 : F.fn 65) (h105 : F.fn 85) (hro : F.round = none) (hn : 3 ≤ n) (tb : Nat) (a : Option Addr) (len cap : Nat) (z : Nat → Z) (hreach : len * 24 ≤ 140737488351232) (w : World) (old : Value)
    (htb : tb < w.heap.size) (hcell : w.cell? ⟨tb, 1, none⟩ = some old) (hfz : w.frozen? ⟨tb, 1, none⟩ = false) (hI : Holds w.heap.size tb w (.slice a len cap) len z) :
    CallsIn F n Try.prog 32 #[.pointer (some ⟨tb, 0, none⟩), .slice a len cap] w fun e W' => e = .returned (.tuple #[]) ∧
      ((∀ b : Nat, b < w.heap.size → b ≠ tb → W'.heap[b]? = w.heap[b]?) ∧ W'.heap[tb]? = (w.setCell ⟨tb, 1, none⟩ (.map (some (w.heap.size + 1)))).heap[tb]? ∧ W'.os = w.os ∧ W'.tape = w.tape ∧ W'.output = w.output ∧ w.heap.size + 3 ≤ W'.heap.size ∧
        ∃ es cl, W'.heap[w.heap.size + 1]? = some (.map es cl) ∧ Go.Ve.RL ER (build (upto (item len z) len)) es.toList ∧ Go.Ve.Stm es cl) := by
  have h1 : 1 ≤ n := by omega
  refine callsIn_of_wp_marks Try.func32 rfl h44 ?_ hro
  simp only [Try.ntmps32, List.size_toArray, List.length_cons, List.length_nil, Nat.reduceAdd, Nat.reduceSub, Array.replicate_succ, Array.replicate_zero, List.push_toArray, List.append_toArray, List.nil_append, List.cons_append]
  have hmk : ∀ W : World, Sem.run Try.prog (Instr.makeMap 106 none) W = .ok (.map (some W.heap.size)) (W.alloc (.map #[] 0)) := fun W => rfl
  have hcell' : ∀ o1 o2, ((w.alloc o1).alloc o2).cell? ⟨tb, 1, none⟩ = some old := fun o1 o2 => by
    rw [World.cell?_alloc_past _ tb 1 (by simp; omega), World.cell?_alloc_past _ tb 1 htb]; exact hcell
  have hfz' : ∀ o1 o2, ((w.alloc o1).alloc o2).frozen? ⟨tb, 1, none⟩ = false := fun o1 o2 => by
    have e : ((w.alloc o1).alloc o2).heap[tb]? = w.heap[tb]? := by
      show ((w.heap.push o1).push o2)[tb]? = _
      rw [Array.getElem?_push, if_neg (by simp; omega), Array.getElem?_push, if_neg (by omega)]
    unfold World.frozen? at hfz ⊢
    rw [e]; exact hfz
  gi_wp2_with (gi_at_call 65; refine (back_in F (n - 1) h89 hro _ _ _ _).mono ?_; rintro e w' ⟨rfl, rfl⟩)
  obtain ⟨w1, hw1⟩ : ∃ w1, w1 = (((w.setCell ⟨tb, 1, none⟩ (.map (some (w.heap.size + 1)))).alloc (.cells #[.pointer (some ⟨tb, 0, none⟩)] 57)).alloc (.map #[] 0)).alloc (.cells #[.slice a len cap] 24) := ⟨_, rfl⟩
  obtain ⟨w0, hw0⟩ : ∃ w0, w0 = w.setCell ⟨tb, 1, none⟩ (.map (some (w.heap.size + 1))) := ⟨_, rfl⟩
  have hs0 : w0.heap.size = w.heap.size := by rw [hw0]; exact World.size_setCell ..
  have hp : ∀ b : Nat, w1.heap[b]? = (((w0.heap.push (.cells #[.pointer (some ⟨tb, 0, none⟩)] 57)).push (.map #[] 0)).push (.cells #[.slice a len cap] 24))[b]? := fun b => by rw [hw1, hw0]; rfl
  have hs1 : w1.heap.size = w.heap.size + 3 := by rw [hw1]; simp [World.size_setCell]
  have g0 : w1.heap[w.heap.size]? = some (.cells #[.pointer (some ⟨tb, 0, none⟩)] 57 (0, 0)) := by
    rw [hp, Array.getElem?_push, if_neg (by simp [hs0]; omega), Array.getElem?_push, if_neg (by simp [hs0]), Array.getElem?_push, if_pos hs0.symm]
  have g1 : w1.heap[w.heap.size + 1]? = some (.map #[] 0) := by
    rw [hp, Array.getElem?_push, if_neg (by simp [hs0]), Array.getElem?_push, if_pos (by simp [hs0])]
  have g2 : w1.heap[w.heap.size + 2]? = some (.cells #[.slice a len cap] 24 (0, 0)) := by
    rw [hp, Array.getElem?_push, if_pos (by simp [hs0])]
  have g5 : ∀ b : Nat, b < w.heap.size → w1.heap[b]? = w0.heap[b]? := fun b hb => by
    rw [hp, Array.getElem?_push, if_neg (by simp [hs0]; omega), Array.getElem?_push, if_neg (by simp [hs0]; omega), Array.getElem?_push, if_neg (by rw [hs0]; omega)]
  have g3 : w1.cell? ⟨tb, 1, none⟩ = some (.map (some (w.heap.size + 1))) := by
    rw [World.cell?_of_block (w := w0) (g5 tb htb), hw0]
    exact World.cell?_setCell_same' w ⟨tb, 1, none⟩ _ (by rw [hcell]; rfl)
  have g4 : ∀ b : Nat, b < w.heap.size → b ≠ tb → w1.heap[b]? = w.heap[b]? := fun b hb hne => by
    rw [g5 b hb, hw0]
    exact heap_setCell_other w ⟨tb, 1, none⟩ b _ hne
  have hmeta : w1.os = w.os ∧ w1.tape = w.tape ∧ w1.output = w.output := by rw [hw1]; exact ⟨rfl, rfl, rfl⟩
  rw [← hw1]
  have hH : Holds w1.heap.size (w.heap.size + 1) w1 (.slice a len cap) len z := by
    rcases hI with h | ⟨b, off, cap', e, hb, hne, hc⟩
    · exact .inl h
    · exact .inr ⟨b, off, cap', e, by omega, by omega, fun j hj => ⟨(World.cell?_of_block (w := w) (g4 b hb hne)).trans (hc j hj).1, (World.cell?_of_block (w := w) (g4 b hb hne)).trans (hc j hj).2.1, (World.cell?_of_block (w := w) (g4 b hb hne)).trans (hc j hj).2.2⟩⟩
  refine wpIn_rangeFunc_ownH hro h1 (gf := 85) (lb := #[.pointer (some ⟨w.heap.size + 1 + 1, 0, none⟩)]) rfl h105 (enters_of Try.func85 (by kernel_rfl) rfl)
    (back_stops F (n - 1) h105 hro (by omega) (w.heap.size + 1 + 1) w1.heap.size (w.heap.size + 1) len (.slice a len cap) z hreach w1 (by omega) (by omega) (Nat.le_refl _) (by simp [World.cell?, g2]) hH)
    (fun h k => h.trans k) (fun W l o o' hl ho hc _ => ⟨by simp [World.putObj], fun b h1 h2 => by simp only [World.putObj]; rw [Array.getElem?_setIfInBounds_ne (by omega)], rfl, rfl, rfl⟩) (Below.refl _ _) (fun x => rfl)
    (Inv w1.heap.size (w.heap.size + 1) w1) (fun _ _ _ => False) (inv_own rfl (by omega)) (fun _ _ _ _ _ h _ _ => h)
    ⟨KB.refl _ _ _, #[], 0, g1, .nil, .nil 0⟩ (Given (frame tb a len cap w.heap.size)) (fun x a' => given_own _ x a') ?assign ?body ?done ?stop
  case assign =>
    intro l pre x W K hI' hK
    obtain ⟨ix, zm, zv, zp⟩ := x
    simp only [enc, Z.agg]
    gi_wp2
    have hz := hI'.1.size
    refine hK _ _ ((KeepsOthers.alloc _ _).from _) ⟨by simp, fun b hb _ => ?_, rfl, rfl, rfl⟩ ((inv_own rfl (by omega)).alloc _ hI') ⟨W.heap.size, ?_, World.alloc_heap_new _ _⟩
    · show (W.heap.push _)[b]? = _
      rw [Array.getElem?_push, if_neg (by omega)]
    · simp [frame, Z.agg]
  case body =>
    rintro l pre ⟨ix, zm, zv, zp⟩ a' W hl hR hI' ⟨bx, rfl, hbx⟩ _
    obtain ⟨hk, es, cl, hmap, hent, hstm⟩ := hI'
    have hz := hk.size
    have c0 : W.cell? ⟨w.heap.size, 0, none⟩ = some (.pointer (some ⟨tb, 0, none⟩)) := by
      rw [hk.cell (p := ⟨w.heap.size, 0, none⟩) (by show w.heap.size < _; omega) (by show w.heap.size ≠ _; omega)]
      simp [World.cell?, g0]
    have c1 : W.cell? ⟨tb, 1, none⟩ = some (.map (some (w.heap.size + 1))) := by
      rw [hk.cell (p := ⟨tb, 1, none⟩) (by show tb < _; omega) (by show tb ≠ _; omega)]
      exact g3
    have x0 : W.cell? ⟨bx, 0, none⟩ = some (.int .u64 zm) := by simp [World.cell?, hbx]
    have x1 : W.cell? ⟨bx, 1, none⟩ = some (.int .i64 zv) := by simp [World.cell?, hbx]
    have x2 : W.cell? ⟨bx, 2, none⟩ = some (.int .i64 zp) := by simp [World.cell?, hbx]
    have hheap : ∀ k, (W.drewN k).heap = W.heap ∧ (W.drewN k).os = W.os ∧ (W.drewN k).tape = W.tape ∧ (W.drewN k).output = W.output := fun k => ⟨rfl, rfl, rfl, rfl⟩
    have hall : ∀ k, ∃ es' cl', (Instr.mapUpdate 106 (.map (some (w.heap.size + 1))) (.agg #[.int .i64 zv, .int .u64 zm]) (.int .i64 zp)).run Try.prog (W.drewN k) = .ok () { (W.drewN k) with heap := (W.drewN k).heap.setIfInBounds (w.heap.size + 1) (.map es' cl') } ∧ Go.Ve.RL ER (build (pre ++ [(ix, ⟨zm, zv, zp⟩)])) es'.toList ∧ Go.Ve.Stm es' cl' := fun k => by
      rw [build_snoc]
      exact run_upd (W.drewN k) (w.heap.size + 1) es cl (build pre) (by rw [(hheap k).1]; exact hmap) hent hstm zv zm zp
    have hmsz : w.heap.size + 1 < W.heap.size := by omega
    have mixed : Try.prog.follows Departure.mixedOrders = true := by kernel_rfl
    simp only [frame, Z.agg]
    gi_wp2
    refine Reg.wpIn_region_lastL (by exact List.cons_ne_nil _ _) mixed (by kernel_rfl) (by kernel_rfl) ?_
    simp only [List.dropLast, List.length_cons, List.length_nil]
    repeat (gi_big_quiet_step (skip))
    refine wpQuietIn_nil ?_
    rintro w2 ⟨kq, rfl⟩
    refine Reg.lastOp rfl rfl ⟨fun f hf => (by cases hf), ?_⟩
    rw [Oper.semAt_eq _ _ _ (by intro c h; cases h)]
    obtain ⟨es', cl', hrun, hent'⟩ := hall kq
    have hex : ∀ ρ, ρ (.tmp 19) = Value.map (some (w.heap.size + 1)) → ρ (.tmp 24) = .agg #[.int .i64 zv, .int .u64 zm] → ρ (.tmp 26) = .int .i64 zp → ∀ o : Oper, o.op = .mapUpdate 106 (.tmp 19) (.tmp 24) (.tmp 26) → (execOp ρ o).run Try.prog (W.drewN kq) = .ok .skip { (W.drewN kq) with heap := (W.drewN kq).heap.setIfInBounds (w.heap.size + 1) (.map es' cl') } := fun ρ r1 r2 r3 o ho => by
      simp [execOp, ho, r1, r2, r3, hrun]
    rw [hex _ rfl rfl rfl _ rfl]
    have q1 : W.heap.size ≤ (W.heap.setIfInBounds (w.heap.size + 1) (.map es' cl')).size := by simp
    have q2 : ∀ b : Nat, b ≠ w.heap.size + 1 → (W.heap.setIfInBounds (w.heap.size + 1) (.map es' cl'))[b]? = W.heap[b]? := fun b hb => Array.getElem?_setIfInBounds_ne (Ne.symm hb)
    have q3 : (W.heap.setIfInBounds (w.heap.size + 1) (.map es' cl'))[w.heap.size + 1]? = some (.map es' cl') := by rw [Array.getElem?_setIfInBounds, if_pos rfl, if_pos hmsz]
    exact ⟨⟨q1, fun k o hkk ho _ => (q2 k (by omega)).trans ho⟩, ⟨q1, fun b _ hne => q2 b hne, rfl, rfl, rfl⟩, hk.trans ⟨q1, fun b _ hne => q2 b hne, rfl, rfl, rfl⟩, es', cl', q3, hent'⟩
  case done =>
    rintro D ys W hD rfl hI' hK
    gi_wp2
    refine ⟨by simp, .inl ⟨_, _, rfl, run_takeDeferred hK, ?_⟩⟩
    have hz := hI'.1.size
    obtain ⟨hk, es, cl, hm, hl⟩ := (inv_own rfl (by omega)).putObj (.deferred none) hI' hD hK rfl
    refine ⟨_, results_none rfl _ _ _, rfl, fun b hb hne => (hk.kept b (by omega) (by omega)).trans (g4 b hb hne), ?_, hk.os.trans hmeta.1, hk.tape.trans hmeta.2.1, hk.output.trans hmeta.2.2, by have := hk.size; omega, es, cl, hm, hl⟩
    rw [← hw0]
    exact (hk.kept tb (by omega) (by omega)).trans (g5 tb htb)
  case stop =>
    rintro D c pre W _ _ h _
    exact h.elim
end Go.Proofs.Ytijabmpcicddbaa.Sta

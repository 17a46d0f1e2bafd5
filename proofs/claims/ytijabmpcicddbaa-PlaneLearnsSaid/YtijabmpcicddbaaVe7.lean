/- The evaluator ("VE"): indexes, cuts, lengths, conversions, min, max, closures. -/
import Derived.Test.YtijabmpcicddbaaVe6
set_option linter.unusedVariables false
set_option linter.unusedSimpArgs false
namespace Go.Ve
section
variable {P : Program} {t : List (Nat × AV)} {h : List (Nat × AObj)} {nx : Nat} {u : Upd}

theorem inb_spec {i : Int} {n : Nat} (hb : inb i n = true) : 0 ≤ i ∧ i < (n : Int) := by
  simp [inb] at hb
  exact hb
theorem und_slc {T e : Nat} {td : TD} (ht : TdOk P T td) (hk : td.k = .slc e) : P.underlying T = some (.slice e) := by
  obtain ⟨d, hd, hkd⟩ := ht.und
  rw [hk] at hkd
  cases d <;> simp [kindOk] at hkd
  subst hkd
  exact hd
theorem und_arr {T n e : Nat} {td : TD} (ht : TdOk P T td) (hk : td.k = .arr n e) : P.underlying T = some (.array n e) := by
  obtain ⟨d, hd, hkd⟩ := ht.und
  rw [hk] at hkd
  cases d <;> simp [kindOk] at hkd
  obtain ⟨rfl, rfl⟩ := hkd
  exact hd
theorem und_str {T : Nat} {td : TD} (ht : TdOk P T td) (hk : td.k = .str) : P.underlying T = some .string := by
  obtain ⟨d, hd, hkd⟩ := ht.und
  rw [hk] at hkd
  cases d <;> simp [kindOk] at hkd
  exact hd
theorem und_map {T a b : Nat} {td : TD} (ht : TdOk P T td) (hk : td.k = .map a b) : P.underlying T = some (.map a b) := by
  obtain ⟨d, hd, hkd⟩ := ht.und
  rw [hk] at hkd
  cases d <;> simp only [kindOk] at hkd
  obtain ⟨rfl, rfl⟩ := hkd
  exact hd
theorem run_getMap {w : World} {r : Nat} {es : Array MapEntry} {clock : Nat} (hb : w.heap[r]? = some (.map es clock)) : (getObj r).run P w = .ok (.map es clock) w := by
  simp [getObj, Sem.run, hb]
theorem und_int {T : Nat} {td : TD} {k : IntKind} (ht : TdOk P T td) (hk : td.k = .int k) : P.underlying T = some (.int k) := by
  obtain ⟨d, hd, hkd⟩ := ht.und
  rw [hk] at hkd
  cases d <;> simp [kindOk] at hkd
  subst hkd
  exact hd
theorem test_get {b : Bool} {y n : Stp} (hu : (Stp.test b y n).get = some u) (hn : n.get = none) : b = true ∧ y.get = some u := by
  cases b with
  | true => exact ⟨rfl, hu⟩
  | false => simp only [Stp.get, cond_false, hn] at hu; cases hu
theorem run_indexAt_sl {T e : Nat} {td : TD} {w : World} (hd : P.underlying T = some (.slice e)) (he : TdOk P e td) {a : Addr} {n c : Nat} {k : IntKind} {i : Int} (h0 : 0 ≤ i) (h1 : i < (n : Int)) :
    (Instr.indexAt T (.slice (some a) n c) (.int k i)).run P w = .ok (.pointer (some (a.add (i.toNat * td.size)))) w := by
  simp [Instr.indexAt, asIntOf, Go.run_underlying hd, he.run_sizeOf, h0, h1]

theorem ok_indexAddr {tt : Nat → Option TD} (hT : TT P tt) {T : Nat} {x y : Operand} {p : CV} {k : IntKind} {i : Int} (hx : opnd t x = some (.c p)) (hy : opnd t y = some (.val (.int k i))) (hu : (evIndexAddr tt h T p i).get = some u) :
    OpOk P (.indexAddr T x y) t h nx u := by
  have main : ∀ {u : Upd} {q : CV}, u = { v := some (.c q), rd := u.rd } → (∀ E, E.ok → (∀ id, id ∈ u.rd → E.H id = aget h id) → ∀ v, RC E p v → ∃ v', (Instr.indexAt T v (.int k i)).run P E.w = .ok v' E.w ∧ RC E q v') → OpOk P (.indexAddr T x y) t h nx u := by
    intro u q hu hq
    rw [hu]
    refine opOk_val fun o ho E a hA => ?_
    obtain ⟨e, _⟩ := opnd_in hA (by simp [Op.operands]) hy
    obtain ⟨v', h1, h2⟩ := hq E hA.ok hA.rd _ (opnd_in hA (by simp [Op.operands]) hx)
    exact ⟨v', by simp [execOp, ho, e, h1], h2⟩
  unfold evIndexAddr at hu
  split at hu
  · rename_i n e sz by' z phl htd
    split at hu
    · rename_i id off ed hed
      obtain ⟨hb, hu⟩ := test_get hu rfl
      simp only [Stp.get, Option.some.injEq] at hu
      subst hu
      obtain ⟨h0, h1⟩ := inb_spec hb
      refine main rfl fun E hE hrd v hv => ?_
      simp only [RC] at hv
      split at hv
      · rename_i heq
        subst hv
        have hd := und_arr (hT T _ htd) rfl
        refine ⟨.pointer (some ⟨E.ι id, off + i.toNat * ed.size, none⟩), ?_, by simp only [RC, heq]⟩
        simp [Instr.indexAt, asIntOf, Go.run_underlying hd, Instr.sureAddr, (hT e ed hed).run_sizeOf, h0, h1, add_plain]
      · exact hv.elim
    · simp [Stp.get] at hu
  · rename_i e sz by' z phl htd
    have hd := und_slc (hT T _ htd) rfl
    split at hu
    · rename_i ed hed
      have he := hT e ed hed
      split at hu
      · rename_i id
        split at hu
        · rename_i ro kk s n f hob
          cases hs : Nat.beq s ed.size with
          | false => simp [hs, Stp.get] at hu
          | true =>
            simp only [hs, cond_true] at hu
            obtain ⟨hb, hu⟩ := test_get hu rfl
            simp only [Stp.get, Option.some.injEq] at hu
            subst hu
            obtain ⟨h0, h1⟩ := inb_spec hb
            obtain rfl := Nat.eq_of_beq_eq_true hs
            refine main rfl fun E hE hrd v hv => ?_
            have hid := (hrd id (by simp)).trans hob
            simp only [RC, hid] at hv
            obtain ⟨_, _, cap, cs, rfl, _⟩ := hv.real (by omega)
            refine ⟨_, run_indexAt_sl hd he h0 h1, ?_⟩
            simp only [RC, hid, add_plain]
            exact ⟨by simp, by omega⟩
        · simp [Stp.get] at hu
      · rename_i id m
        split at hu
        · rename_i ro kk s n f hob
          cases hs : Nat.beq s ed.size with
          | false => simp [hs, Stp.get] at hu
          | true =>
            simp only [hs, cond_true] at hu
            obtain ⟨hb, hu⟩ := test_get hu rfl
            simp only [Stp.get, Option.some.injEq] at hu
            subst hu
            obtain ⟨h0, h1⟩ := inb_spec hb
            obtain rfl := Nat.eq_of_beq_eq_true hs
            refine main rfl fun E hE hrd v hv => ?_
            have hid := (hrd id (by simp)).trans hob
            simp only [RC, hid] at hv
            obtain ⟨hmn, _, cap, cs, rfl, _⟩ := hv.real (by omega)
            refine ⟨_, run_indexAt_sl hd he h0 h1, ?_⟩
            simp only [RC, hid, add_plain]
            exact ⟨by simp, by omega⟩
        · simp [Stp.get] at hu
      · rename_i id lo n
        split at hu
        · rename_i ro kk s n' f hob
          cases hs : Nat.beq s ed.size with
          | false => simp [hs, Stp.get] at hu
          | true =>
            simp only [hs, cond_true] at hu
            obtain ⟨hb, hu⟩ := test_get hu rfl
            simp only [Stp.get, Option.some.injEq] at hu
            subst hu
            obtain ⟨h0, h1⟩ := inb_spec hb
            obtain rfl := Nat.eq_of_beq_eq_true hs
            refine main rfl fun E hE hrd v hv => ?_
            have hid := (hrd id (by simp)).trans hob
            simp only [RC, hid] at hv
            obtain ⟨hln, ⟨_, h00, _⟩ | ⟨_, ad, cap, rfl, hc, ha⟩⟩ := hv
            · omega
            obtain rfl := ha (by omega)
            refine ⟨_, run_indexAt_sl hd he h0 h1, ?_⟩
            simp only [RC, hid, add_plain]
            exact ⟨by simp [Nat.add_mul], by omega⟩
        · simp [Stp.get] at hu
      · rename_i id base n s
        cases hs : Nat.beq s ed.size with
        | false => simp [hs, Stp.get] at hu
        | true =>
          simp only [hs, cond_true] at hu
          obtain ⟨hb, hu⟩ := test_get hu rfl
          simp only [Stp.get, Option.some.injEq] at hu
          subst hu
          obtain ⟨h0, h1⟩ := inb_spec hb
          obtain rfl := Nat.eq_of_beq_eq_true hs
          refine main rfl fun E hE hrd v hv => ?_
          simp only [RC] at hv
          split at hv
          · rename_i heq
            obtain ⟨hln, ad, cap, rfl, hc, ha⟩ := hv
            obtain rfl := ha (by omega)
            refine ⟨_, run_indexAt_sl hd he h0 h1, ?_⟩
            simp only [RC, heq, add_plain]
          · exact hv.elim
      · rename_i nl kk s n f
        cases hs : Nat.beq s ed.size with
        | false => simp [hs, Stp.get] at hu
        | true =>
          simp only [hs, cond_true] at hu
          obtain ⟨hb, hu⟩ := test_get hu rfl
          simp only [Stp.get, Option.some.injEq] at hu
          subst hu
          obtain ⟨h0, h1⟩ := inb_spec hb
          obtain rfl := Nat.eq_of_beq_eq_true hs
          refine main rfl fun E hE hrd v hv => ?_
          obtain ⟨hkk, ad, cap, rfl, hc, _, _, ha⟩ := hv
          obtain ⟨b, o, rfl, hS, hcell⟩ := ha (by omega)
          refine ⟨_, run_indexAt_sl hd he h0 h1, ?_⟩
          rw [add_plain]
          refine ⟨b, o + i.toNat * ed.size, by simp, hS, fun c hc => ?_⟩
          obtain ⟨y, hy, hr⟩ := hcell i.toNat (by omega) c hc
          exact ⟨y, hy, RP.norm (hkk i.toNat (by omega) c) hr⟩
      · simp [Stp.get] at hu
    · simp [Stp.get] at hu
  · simp [Stp.get] at hu

theorem run_part_rel {E : Env} {T : Nat} {td : TD} (ht : TdOk P T td) {cs : Array Value} {l r : List CV} {off : Nat} {v : VV} (hl : RL (RC E) l cs.toList) (hc : cut l off td.size = some r) (hp : pack td.k r = some v) :
    ∃ y, (part T cs off).run P E.w = .ok y E.w ∧ RV E v y := by
  obtain ⟨rfl, hn⟩ := cut_eq hc
  have hl' := (hl.drop off).take td.size
  unfold pack at hp
  cases hk : isAgg td.k with
  | true =>
    simp only [hk, cond_true, Option.some.injEq] at hp
    subst hp
    refine ⟨.agg (cs.extract off (off + td.size)), by simp [part, ht.run_isAgg, hk, ht.run_sizeOf], _, rfl, ?_⟩
    rw [Array.toList_extract]
    simpa using hl'
  | false =>
    simp only [hk, cond_false] at hp
    split at hp
    · rename_i x hx
      injection hp with hp
      subst hp
      have h0 : ((l.drop off).take td.size)[0]? = some x := by rw [hx]; rfl
      obtain ⟨y, hy, hr⟩ := hl'.get h0
      refine ⟨y, ?_, hr⟩
      rw [List.getElem?_take] at hy
      split at hy
      · rw [List.getElem?_drop] at hy
        have : cs[off]? = some y := by simpa using hy
        simp [part, ht.run_isAgg, hk, this]
      · cases hy
    · cases hp

theorem ok_index {tt : Nat → Option TD} (hT : TT P tt) {T : Nat} {x y : Operand} {v : VV} {k : IntKind} {i : Int} (hx : opv t x = some v) (hy : opnd t y = some (.val (.int k i))) (hstr : ∀ s, v = .c (.pv (.val (.string s))) → ∃ td, tt T = some td ∧ td.k = .str)
    (hu : (evIndex tt T v i).get = some u) : OpOk P (.index T x y) t h nx u := by
  unfold evIndex at hu
  split at hu
  · rename_i s
    obtain ⟨hb, hu⟩ := test_get hu rfl
    simp only [Stp.get, Option.some.injEq] at hu
    subst hu
    obtain ⟨h0, h1⟩ := inb_spec hb
    obtain ⟨td, htd, hk⟩ := hstr s rfl
    have hd := und_str (hT T td htd) hk
    refine opOk_val fun o ho E a hA => ?_
    obtain ⟨e, _⟩ := opnd_in hA (by simp [Op.operands]) hy
    obtain ⟨e2, _⟩ := opv_in hA (by simp [Op.operands]) hx
    have h2 : i.toNat < s.size := by omega
    refine ⟨.int .u8 (bt s i), ?_, rfl, rfl⟩
    have h3 : s[i.toNat]? = some (s[i.toNat]'h2) := by simp [h2]
    simp [execOp, ho, e, e2, Instr.index, asIntOf, Go.run_underlying hd, h0, h3, bt, h2]
  · rename_i l
    split at hu
    · rename_i n e sz by' z phl htd
      split at hu
      · rename_i ed hed
        obtain ⟨hb, hu⟩ := test_get hu rfl
        obtain ⟨h0, h1⟩ := inb_spec hb
        obtain ⟨vv, hv, hu⟩ := Stp.of_get hu
        simp only [Stp.get, Option.some.injEq] at hu
        subst hu
        cases hc : cut l (i.toNat * ed.size) ed.size with
        | none => simp [hc] at hv
        | some r =>
          simp only [hc, Option.bind_some] at hv
          refine opOk_val fun o ho E a hA => ?_
          obtain ⟨e1, _⟩ := opnd_in hA (by simp [Op.operands]) hy
          obtain ⟨cs, e2, hl⟩ := opv_in hA (by simp [Op.operands]) hx
          obtain ⟨y, hy, hr⟩ := run_part_rel (P := P) (hT e ed hed) hl hc hv
          refine ⟨y, ?_, hr⟩
          simp [execOp, ho, e1, e2, Instr.index, asIntOf, Go.run_underlying (und_arr (hT T _ htd) rfl), h0, h1, (hT e ed hed).run_sizeOf, hy]
      · simp [Stp.get] at hu
    · simp [Stp.get] at hu
  · simp [Stp.get] at hu

/-! ### cuts -/
def optRel (P : Program) (t : List (Nat × AV)) (a : Act) : Option Operand → Option Int → Prop
  | none, none => True
  | some x, some n => ∃ k, a.eval x = .int k n
  | _, _ => False
theorem run_sliceBoundsN {lo hi : Option Value} {lo' hi' : Option Int} {isS : Bool} {len N cap : Nat} {w : World} (hlo : ∀ v, lo = some v → ∃ k i, v = .int k i ∧ lo' = some i) (hlo0 : lo = none → lo' = none)
    (hhi : ∀ v, hi = some v → ∃ k i, v = .int k i ∧ hi' = some i) (hhi0 : hi = none → hi' = none) (hn : len ≤ cap) (hN : N ≤ cap) (hb1 : inb (hi'.getD (len : Int)) (N + 1) = true) (hb2 : (decide (0 ≤ lo'.getD 0) && decide (lo'.getD 0 ≤ hi'.getD (len : Int))) = true) :
    (Instr.sliceBounds isS len cap lo hi none).run P w = .ok ((lo'.getD 0).toNat, (hi'.getD (len : Int)).toNat, cap) w := by
  obtain ⟨h1, h2⟩ := inb_spec hb1
  simp only [Bool.and_eq_true, decide_eq_true_eq] at hb2
  obtain ⟨h3, h4⟩ := hb2
  cases hi with
  | none =>
    have := hhi0 rfl
    subst this
    cases lo with
    | none =>
      have := hlo0 rfl
      subst this
      simp [Instr.sliceBounds]
    | some v =>
      obtain ⟨k, i, rfl, rfl⟩ := hlo v rfl
      simp only [Option.getD_some, Option.getD_none] at *
      simp [Instr.sliceBounds, Instr.sliceBound, asIntOf, h3, h4]
  | some v =>
    obtain ⟨k, j, rfl, rfl⟩ := hhi v rfl
    simp only [Option.getD_some] at *
    have h5 : j ≤ (cap : Int) := by omega
    cases lo with
    | none =>
      have := hlo0 rfl
      subst this
      simp [Instr.sliceBounds, Instr.sliceBound, asIntOf, h1, h5]
    | some v =>
      obtain ⟨k, i, rfl, rfl⟩ := hlo v rfl
      simp only [Option.getD_some] at *
      have h6 : i ≤ ((j.toNat : Nat) : Int) := by omega
      simp only [Instr.sliceBounds, Instr.sliceBound, asIntOf, Sem.run_bind, Sem.run_pure, Result.andThen_ok, Sem.run_ite]
      rw [if_pos ⟨h1, h5⟩]
      simp only [Result.andThen_ok]
      rw [if_pos ⟨h3, h6⟩]
      rfl

theorem run_sliceBounds {lo hi : Option Value} {lo' hi' : Option Int} {isS : Bool} {len cap : Nat} {w : World} (hlo : ∀ v, lo = some v → ∃ k i, v = .int k i ∧ lo' = some i) (hlo0 : lo = none → lo' = none)
    (hhi : ∀ v, hi = some v → ∃ k i, v = .int k i ∧ hi' = some i) (hhi0 : hi = none → hi' = none) (hn : len ≤ cap) (hb1 : inb (hi'.getD (len : Int)) (len + 1) = true) (hb2 : (decide (0 ≤ lo'.getD 0) && decide (lo'.getD 0 ≤ hi'.getD (len : Int))) = true) :
    (Instr.sliceBounds isS len cap lo hi none).run P w = .ok ((lo'.getD 0).toNat, (hi'.getD (len : Int)).toNat, cap) w := by
  obtain ⟨h1, h2⟩ := inb_spec hb1
  simp only [Bool.and_eq_true, decide_eq_true_eq] at hb2
  obtain ⟨h3, h4⟩ := hb2
  cases hi with
  | none =>
    have := hhi0 rfl
    subst this
    cases lo with
    | none =>
      have := hlo0 rfl
      subst this
      simp [Instr.sliceBounds]
    | some v =>
      obtain ⟨k, i, rfl, rfl⟩ := hlo v rfl
      simp only [Option.getD_some, Option.getD_none] at *
      simp [Instr.sliceBounds, Instr.sliceBound, asIntOf, h3, h4]
  | some v =>
    obtain ⟨k, j, rfl, rfl⟩ := hhi v rfl
    simp only [Option.getD_some] at *
    have h5 : j ≤ (cap : Int) := by omega
    cases lo with
    | none =>
      have := hlo0 rfl
      subst this
      simp [Instr.sliceBounds, Instr.sliceBound, asIntOf, h1, h5]
    | some v =>
      obtain ⟨k, i, rfl, rfl⟩ := hlo v rfl
      simp only [Option.getD_some] at *
      have h6 : i ≤ ((j.toNat : Nat) : Int) := by omega
      simp only [Instr.sliceBounds, Instr.sliceBound, asIntOf, Sem.run_bind, Sem.run_pure, Result.andThen_ok, Sem.run_ite]
      rw [if_pos ⟨h1, h5⟩]
      simp only [Result.andThen_ok]
      rw [if_pos ⟨h3, h6⟩]
      rfl

theorem optInt_rel {E : Env} {a : Act} {op : Op} {x : Option Operand} {n : Option Int} (hA : Ahead E a t h nx op u) (hm : ∀ y, x = some y → y ∈ op.operands.toList) (hx : optInt t x = some n) :
    (∀ v, x.map a.eval = some v → ∃ k i, v = .int k i ∧ n = some i) ∧ (x.map a.eval = none → n = none) := by
  cases x with
  | none => simp [optInt] at hx; subst hx; simp
  | some y =>
    simp only [optInt] at hx
    split at hx
    · rename_i k m ho
      injection hx with hx
      subst hx
      obtain ⟨e, _⟩ := opnd_in hA (hm y rfl) ho
      refine ⟨fun v hv => ?_, fun hv => by simp at hv⟩
      simp at hv
      exact ⟨k, m, by rw [← hv, e], rfl⟩
    · cases hx

theorem run_sliceBounds3 {k1 k2 k3 : IntKind} {l r c : Int} {len cap : Nat} {w : World} (h1 : 0 ≤ c) (h2 : c ≤ (cap : Int)) (h3 : 0 ≤ r) (h4 : r ≤ ((c.toNat : Nat) : Int)) (h5 : 0 ≤ l) (h6 : l ≤ ((r.toNat : Nat) : Int)) :
    (Instr.sliceBounds true len cap (some (.int k1 l)) (some (.int k2 r)) (some (.int k3 c))).run P w = .ok (l.toNat, r.toNat, c.toNat) w := by
  simp only [Instr.sliceBounds, Instr.sliceBound, asIntOf, Sem.run_bind, Sem.run_pure, Result.andThen_ok, Sem.run_ite]
  rw [if_pos ⟨h1, h2⟩]
  simp only [Result.andThen_ok]
  rw [if_pos ⟨h3, h4⟩]
  simp only [Result.andThen_ok]
  rw [if_pos ⟨h5, h6⟩]
  rfl
theorem ok_slice {tt : Nat → Option TD} (hT : TT P tt) {T : Nat} {x : Operand} {lo hi mx : Option Operand} {p : CV} {l' h' m' : Option Int} (hx : opnd t x = some (.c p)) (hl : optInt t lo = some l') (hh : optInt t hi = some h') (hm : optInt t mx = some m')
    (hu : (evSlice tt h T p l' h' m').get = some u) : OpOk P (.slice T x lo hi mx) t h nx u := by
  have hmx : m' = none → mx = none := by
    intro e
    subst e
    cases mx with
    | none => rfl
    | some y => simp only [optInt] at hm; split at hm <;> simp at hm
  have main : ∀ {u : Upd} {q : AV}, m' = none → u = { v := some q, rd := u.rd } → (∀ E, E.ok → (∀ id, id ∈ u.rd → E.H id = aget h id) → ∀ lo hi : Option Value, (∀ v, lo = some v → ∃ k i, v = .int k i ∧ l' = some i) → (lo = none → l' = none) →
      (∀ v, hi = some v → ∃ k i, v = .int k i ∧ h' = some i) → (hi = none → h' = none) → ∀ v, RC E p v → ∃ v', (Instr.sliceAt T v lo hi none).run P E.w = .ok v' E.w ∧ RA E q v') → OpOk P (.slice T x lo hi mx) t h nx u := by
    intro u q e hu hq
    rw [hu]
    have := hmx e
    subst this
    refine opOk_val fun o ho E a hA => ?_
    have q1 := optInt_rel hA (x := lo) (fun y hy => by subst hy; simp [Op.operands]) hl
    have q2 := optInt_rel hA (x := hi) (fun y hy => by subst hy; simp [Op.operands]) hh
    obtain ⟨v', h1, h2⟩ := hq E hA.ok hA.rd _ _ q1.1 q1.2 q2.1 q2.2 _ (opnd_in hA (by simp [Op.operands]) hx)
    exact ⟨v', by simp [execOp, ho, h1], h2⟩
  have getgo : ∀ {n : Nat} {f : Nat → Nat → Stp}, (goSlice l' h' n f).get = some u →
      inb (h'.getD (n : Int)) (n + 1) = true ∧ (decide (0 ≤ l'.getD 0) && decide (l'.getD 0 ≤ h'.getD (n : Int))) = true ∧ (f (l'.getD 0).toNat ((h'.getD (n : Int)).toNat - (l'.getD 0).toNat)).get = some u := by
    intro n f hg
    obtain ⟨a1, hg⟩ := test_get hg rfl
    obtain ⟨a2, hg⟩ := test_get hg rfl
    exact ⟨a1, a2, hg⟩
  have getgoC : ∀ {n N : Nat} {f : Nat → Nat → Stp}, (goSliceC l' h' n N f).get = some u →
      inb (h'.getD (n : Int)) (N + 1) = true ∧ (decide (0 ≤ l'.getD 0) && decide (l'.getD 0 ≤ h'.getD (n : Int))) = true ∧ (f (l'.getD 0).toNat ((h'.getD (n : Int)).toNat - (l'.getD 0).toNat)).get = some u := by
    intro n N f hg
    obtain ⟨a1, hg⟩ := test_get hg rfl
    obtain ⟨a2, hg⟩ := test_get hg rfl
    exact ⟨a1, a2, hg⟩
  unfold evSlice at hu
  split at hu
  · rename_i td htd
    have ht := hT T td htd
    split at hu
    · rename_i hk
      split at hu
      · rename_i s
        obtain ⟨b1, b2, hu⟩ := getgo hu
        simp only [Stp.get, Option.some.injEq] at hu
        subst hu
        refine main rfl rfl fun E hE hrd lo hi c1 c2 c3 c4 v hv => ?_
        obtain ⟨rfl, _⟩ := hv
        have hd := und_str ht hk
        have hb := run_sliceBounds (P := P) (isS := false) (w := E.w) c1 c2 c3 c4 (Nat.le_refl s.size) b1 b2
        obtain ⟨i1, i2⟩ := inb_spec b1
        simp only [Bool.and_eq_true, decide_eq_true_eq] at b2
        refine ⟨_, ?_, rfl, rfl⟩
        simp only [Instr.sliceAt, Sem.run_bind, Go.run_underlying hd, Result.andThen_ok, Instr.slice, Option.isSome_none, Bool.false_eq_true, if_false, Sem.run_pure, hb]
        congr 3
        omega
      · simp [Stp.get] at hu
    · rename_i n e hk
      split at hu
      · rename_i id off ed hed
        split at hu
        · rename_i ro l hob
          cases hle : Nat.ble (off + n * ed.size) l.length with
          | false => simp [hle, Stp.get] at hu
          | true =>
            simp only [hle, cond_true] at hu
            have hle' := Nat.le_of_ble_eq_true hle
            obtain ⟨b1, b2, hu⟩ := getgo hu
            simp only [Stp.get, Option.some.injEq] at hu
            subst hu
            refine main rfl rfl fun E hE hrd lo hi c1 c2 c3 c4 v hv => ?_
            have hid := (hrd id (by simp)).trans hob
            simp only [RC, hid] at hv
            subst hv
            have hd := und_arr ht hk
            have hb := run_sliceBounds (P := P) (isS := false) (w := E.w) c1 c2 c3 c4 (Nat.le_refl n) b1 b2
            obtain ⟨i1, i2⟩ := inb_spec b1
            simp only [Bool.and_eq_true, decide_eq_true_eq] at b2
            refine ⟨.slice (some (if n = (l'.getD 0).toNat then ⟨E.ι id, off, none⟩ else (⟨E.ι id, off, none⟩ : Addr).add ((l'.getD 0).toNat * ed.size))) ((h'.getD (n : Int)).toNat - (l'.getD 0).toNat) (n - (l'.getD 0).toNat), ?_, ?_⟩
            · simp [Instr.sliceAt, Go.run_underlying hd, Instr.sureAddr, hb, (hT e ed hed).run_sizeOf]
            · simp only [RA, RV, RC, hid]
              refine ⟨?_, _, _, rfl, by omega, fun hpos => ?_⟩
              · have h1 : (l'.getD 0).toNat * ed.size + ((h'.getD (n : Int)).toNat - (l'.getD 0).toNat) * ed.size ≤ n * ed.size := by
                  rw [← Nat.add_mul]
                  exact Nat.mul_le_mul_right _ (by omega)
                omega
              · rw [if_neg (by omega), add_plain]
        · simp [Stp.get] at hu
      · simp [Stp.get] at hu
    · rename_i e hk
      have hd := und_slc ht hk
      split at hu
      · rename_i ed hed
        have hsz := (hT e ed hed).run_sizeOf
        unfold evSliceSl at hu
        split at hu
        · rename_i id
          split at hu
          · rename_i ro kk s n f hob
            cases hs : Nat.beq s ed.size with
            | false => simp [hs, Stp.get] at hu
            | true =>
              simp only [hs, cond_true] at hu
              obtain ⟨b1, b2, hu⟩ := getgo hu
              simp only [Stp.get, Option.some.injEq] at hu
              subst hu
              obtain rfl := Nat.eq_of_beq_eq_true hs
              refine main rfl rfl fun E hE hrd lo hi c1 c2 c3 c4 v hv => ?_
              have hid := (hrd id (by simp)).trans hob
              simp only [RC, hid] at hv
              obtain ⟨_, ⟨hnl, hn0, rfl⟩ | ⟨hnl, cap, cs, rfl, hcap, hblk, hcs⟩⟩ := hv
              · subst hn0
                have hb := run_sliceBounds (P := P) (isS := true) (w := E.w) c1 c2 c3 c4 (Nat.le_refl 0) b1 b2
                obtain ⟨i1, i2⟩ := inb_spec b1
                simp only [Bool.and_eq_true, decide_eq_true_eq] at b2
                have e1 : (h'.getD ((0 : Nat) : Int)).toNat = 0 := by omega
                have e2 : (l'.getD 0).toNat = 0 := by omega
                rw [e1, e2] at hb
                refine ⟨.slice none 0 0, by simp [Instr.sliceAt, Go.run_underlying hd, Instr.slice, hb, hsz], ?_⟩
                cases l' with
                | none =>
                  simp only [RA, RV, RC, hid]
                  exact ⟨by omega, .inl (by simp [hnl])⟩
                | some lv =>
                  simp only [RA, RV, RC, hid]
                  exact ⟨by omega, .inl (by simp [hnl])⟩
              have hb := run_sliceBounds (P := P) (isS := true) (w := E.w) c1 c2 c3 c4 hcap b1 b2
              obtain ⟨i1, i2⟩ := inb_spec b1
              simp only [Bool.and_eq_true, decide_eq_true_eq] at b2
              refine ⟨_, by simp [Instr.sliceAt, Go.run_underlying hd, Instr.slice, hb, hsz]; rfl, ?_⟩
              cases l' with
              | none =>
                simp only [RA, RV, RC, hid]
                refine ⟨by simp at i1 i2 ⊢; omega, .inr ⟨hnl, cap, cs, ?_, hcap, hblk, hcs⟩⟩
                simp only [Option.getD_none, Int.toNat_zero, Nat.sub_zero, Nat.zero_mul, add_plain, Nat.add_zero]
                by_cases hcl : cap = 0
                · rw [if_pos hcl]
                · rw [if_neg hcl]
              | some lv =>
              simp only [RA, RV, RC, hid]
              by_cases hcl : cap = ((some lv).getD 0).toNat
              · rw [if_pos hcl]
                exact ⟨by omega, .inr ⟨hnl, _, _, rfl, by omega, fun hpos => by omega⟩⟩
              · rw [if_neg hcl]
                exact ⟨by omega, .inr ⟨hnl, _, _, rfl, by omega, fun hpos => by rw [add_plain]; simp⟩⟩
          · simp [Stp.get] at hu
        · rename_i id n0
          split at hu
          · rename_i ro kk s n f hob
            cases hs : Nat.beq s ed.size with
            | false => simp [hs, Stp.get] at hu
            | true =>
              simp only [hs, cond_true] at hu
              obtain ⟨b1, b2, hu⟩ := getgoC hu
              simp only [Stp.get, Option.some.injEq] at hu
              subst hu
              obtain rfl := Nat.eq_of_beq_eq_true hs
              refine main rfl rfl fun E hE hrd lo hi c1 c2 c3 c4 v hv => ?_
              have hid := (hrd id (by simp)).trans hob
              simp only [RC, hid] at hv
              obtain ⟨hmn, ⟨hnl, hn0, rfl⟩ | ⟨hnl, cap, cs, rfl, hcap, hblk, hcs⟩⟩ := hv
              · subst hn0
                obtain rfl : n0 = 0 := by omega
                have hb := run_sliceBoundsN (P := P) (isS := true) (w := E.w) c1 c2 c3 c4 (Nat.le_refl 0) (Nat.le_refl 0) b1 b2
                obtain ⟨i1, i2⟩ := inb_spec b1
                simp only [Bool.and_eq_true, decide_eq_true_eq] at b2
                have e1 : (h'.getD ((0 : Nat) : Int)).toNat = 0 := by omega
                have e2 : (l'.getD 0).toNat = 0 := by omega
                rw [e1, e2] at hb
                refine ⟨.slice none 0 0, by simp [Instr.sliceAt, Go.run_underlying hd, Instr.slice, hb, hsz], ?_⟩
                cases l' with
                | none =>
                  simp only [RA, RV, RC, hid]
                  exact ⟨by omega, .inl (by simp [hnl])⟩
                | some lv =>
                  simp only [RA, RV, RC, hid]
                  exact ⟨by omega, .inl (by simp [hnl])⟩
              have hb := run_sliceBoundsN (P := P) (isS := true) (w := E.w) c1 c2 c3 c4 (Nat.le_trans hmn hcap) hcap b1 b2
              obtain ⟨i1, i2⟩ := inb_spec b1
              simp only [Bool.and_eq_true, decide_eq_true_eq] at b2
              refine ⟨_, by simp [Instr.sliceAt, Go.run_underlying hd, Instr.slice, hb, hsz]; rfl, ?_⟩
              cases l' with
              | none =>
                simp only [RA, RV, RC, hid]
                refine ⟨by simp at i1 i2 ⊢; omega, .inr ⟨hnl, cap, cs, ?_, hcap, hblk, hcs⟩⟩
                simp only [Option.getD_none, Int.toNat_zero, Nat.sub_zero, Nat.zero_mul, add_plain, Nat.add_zero]
                by_cases hcl : cap = 0
                · rw [if_pos hcl]
                · rw [if_neg hcl]
              | some lv =>
              simp only [RA, RV, RC, hid]
              by_cases hcl : cap = ((some lv).getD 0).toNat
              · rw [if_pos hcl]
                exact ⟨by omega, .inr ⟨hnl, _, _, rfl, by omega, fun hpos => by omega⟩⟩
              · rw [if_neg hcl]
                exact ⟨by omega, .inr ⟨hnl, _, _, rfl, by omega, fun hpos => by rw [add_plain]; simp⟩⟩
          · simp [Stp.get] at hu
        · rename_i id b n
          split at hu
          · rename_i ro kk s n' f hob
            cases hs : Nat.beq s ed.size with
            | false => simp [hs, Stp.get] at hu
            | true =>
              simp only [hs, cond_true] at hu
              obtain ⟨b1, b2, hu⟩ := getgo hu
              simp only [Stp.get, Option.some.injEq] at hu
              subst hu
              obtain rfl := Nat.eq_of_beq_eq_true hs
              refine main rfl rfl fun E hE hrd lo hi c1 c2 c3 c4 v hv => ?_
              have hid := (hrd id (by simp)).trans hob
              simp only [RC, hid] at hv
              obtain ⟨hln, ⟨hnl, hn0, rfl⟩ | ⟨hnl, ad, cap, rfl, hcap, ha⟩⟩ := hv
              · subst hn0
                obtain rfl : n = 0 := by omega
                have hb := run_sliceBounds (P := P) (isS := true) (w := E.w) c1 c2 c3 c4 (Nat.le_refl 0) b1 b2
                obtain ⟨i1, i2⟩ := inb_spec b1
                simp only [Bool.and_eq_true, decide_eq_true_eq] at b2
                have e1 : (h'.getD ((0 : Nat) : Int)).toNat = 0 := by omega
                have e2 : (l'.getD 0).toNat = 0 := by omega
                rw [e1, e2] at hb
                refine ⟨.slice none 0 0, by simp [Instr.sliceAt, Go.run_underlying hd, Instr.slice, hb, hsz], ?_⟩
                simp only [RA, RV, RC, hid]
                exact ⟨by omega, .inl (by simp [hnl])⟩
              have hb := run_sliceBounds (P := P) (isS := true) (w := E.w) c1 c2 c3 c4 hcap b1 b2
              obtain ⟨i1, i2⟩ := inb_spec b1
              simp only [Bool.and_eq_true, decide_eq_true_eq] at b2
              refine ⟨_, by simp [Instr.sliceAt, Go.run_underlying hd, Instr.slice, hb, hsz]; rfl, ?_⟩
              simp only [RA, RV, RC, hid]
              by_cases hcl : cap = (l'.getD 0).toNat
              · rw [if_pos hcl]
                exact ⟨by omega, .inr ⟨hnl, _, _, rfl, by omega, fun hpos => by omega⟩⟩
              · rw [if_neg hcl]
                exact ⟨by omega, .inr ⟨hnl, _, _, rfl, by omega, fun hpos => by rw [ha (by omega), add_plain, Nat.add_mul]⟩⟩
          · simp [Stp.get] at hu
        · rename_i id b n s
          cases hs : Nat.beq s ed.size with
          | false => simp [hs, Stp.get] at hu
          | true =>
            simp only [hs, cond_true] at hu
            obtain ⟨b1, b2, hu⟩ := getgo hu
            simp only [Stp.get, Option.some.injEq] at hu
            subst hu
            obtain rfl := Nat.eq_of_beq_eq_true hs
            refine main rfl rfl fun E hE hrd lo hi c1 c2 c3 c4 v hv => ?_
            simp only [RC] at hv
            split at hv
            · rename_i heq
              obtain ⟨hln, ad, cap, rfl, hcap, ha⟩ := hv
              have hb := run_sliceBounds (P := P) (isS := true) (w := E.w) c1 c2 c3 c4 hcap b1 b2
              obtain ⟨i1, i2⟩ := inb_spec b1
              simp only [Bool.and_eq_true, decide_eq_true_eq] at b2
              refine ⟨_, by simp [Instr.sliceAt, Go.run_underlying hd, Instr.slice, hb, hsz]; rfl, ?_⟩
              simp only [RA, RV, RC, heq]
              have h1 : (l'.getD 0).toNat * ed.size + ((h'.getD (n : Int)).toNat - (l'.getD 0).toNat) * ed.size ≤ n * ed.size := by
                rw [← Nat.add_mul]
                exact Nat.mul_le_mul_right _ (by omega)
              by_cases hcl : cap = (l'.getD 0).toNat
              · rw [if_pos hcl]
                exact ⟨by omega, _, _, rfl, by omega, fun hpos => by omega⟩
              · rw [if_neg hcl]
                exact ⟨by omega, _, _, rfl, by omega, fun hpos => by rw [ha (by omega), add_plain]⟩
            · exact hv.elim
        · rename_i nl kk s n f
          cases hs : Nat.beq s ed.size with
          | false => simp [hs, Stp.get] at hu
          | true =>
            simp only [hs, cond_true] at hu
            obtain ⟨b1, b2, hu⟩ := getgo hu
            simp only [Stp.get, Option.some.injEq] at hu
            subst hu
            obtain rfl := Nat.eq_of_beq_eq_true hs
            refine main rfl rfl fun E hE hrd lo hi c1 c2 c3 c4 v hv => ?_
            obtain ⟨hkk, ad, cap, rfl, hcap, hnl, hn0, ha⟩ := hv
            have hb := run_sliceBounds (P := P) (isS := true) (w := E.w) c1 c2 c3 c4 hcap b1 b2
            obtain ⟨i1, i2⟩ := inb_spec b1
            simp only [Bool.and_eq_true, decide_eq_true_eq] at b2
            have krow : RowK kk ((h'.getD (n : Int)).toNat - (l'.getD 0).toNat) fun j c => f ((l'.getD 0).toNat + j) c := fun j hj c => hkk _ (by omega) c
            cases ad with
            | none =>
              obtain ⟨rfl, rfl⟩ := hn0 rfl
              have e1 : (h'.getD ((0 : Nat) : Int)).toNat = 0 := by omega
              have e2 : (l'.getD 0).toNat = 0 := by omega
              rw [e1, e2] at hb
              refine ⟨.slice none 0 0, ?_, ?_⟩
              · simp [Instr.sliceAt, Go.run_underlying hd, Instr.slice, hb, hsz]
              · exact ⟨krow, none, 0, by rw [e1, e2], by omega, hnl, fun _ => ⟨by omega, rfl⟩, fun h0 => absurd h0 (by omega)⟩
            | some ad =>
            refine ⟨_, by simp [Instr.sliceAt, Go.run_underlying hd, Instr.slice, hb, hsz]; rfl, ?_⟩
            have fin : ∀ ad', (0 < (h'.getD (n : Int)).toNat - (l'.getD 0).toNat → ad' = ad.add ((l'.getD 0).toNat * ed.size)) → RA E (.c (.pv (.sl nl kk ed.size ((h'.getD (n : Int)).toNat - (l'.getD 0).toNat) fun j c => f ((l'.getD 0).toNat + j) c))) (.slice (some ad') ((h'.getD (n : Int)).toNat - (l'.getD 0).toNat) (cap - (l'.getD 0).toNat)) := by
              intro ad' had
              refine ⟨krow, some ad', _, rfl, by omega, hnl, fun h => (by cases h), fun hpos => ?_⟩
              obtain ⟨b, o, ead, hS, hcell⟩ := ha (by omega)
              injection ead with ead
              subst ead
              refine ⟨b, o + (l'.getD 0).toNat * ed.size, by rw [had hpos, add_plain], hS, fun j hj c hc => ?_⟩
              have := hcell ((l'.getD 0).toNat + j) (by omega) c hc
              rwa [Nat.add_mul, ← Nat.add_assoc] at this
            by_cases hcl : cap = (l'.getD 0).toNat
            · rw [if_pos hcl]
              exact fin _ fun hpos => by omega
            · rw [if_neg hcl]
              exact fin _ fun _ => rfl
        · obtain ⟨b1, b2, hu⟩ := getgo hu
          simp only [Stp.get, Option.some.injEq] at hu
          subst hu
          refine main rfl rfl fun E hE hrd lo hi c1 c2 c3 c4 v hv => ?_
          obtain ⟨rfl, _⟩ := hv
          have hb := run_sliceBounds (P := P) (isS := true) (w := E.w) c1 c2 c3 c4 (Nat.le_refl 0) b1 b2
          obtain ⟨i1, i2⟩ := inb_spec b1
          simp only [Bool.and_eq_true, decide_eq_true_eq] at b2
          refine ⟨.slice none 0 0, ?_, rfl, rfl⟩
          have e1 : (h'.getD ((0 : Nat) : Int)).toNat = 0 := by omega
          have e2 : (l'.getD 0).toNat = 0 := by omega
          rw [e1, e2] at hb
          simp [Instr.sliceAt, Go.run_underlying hd, Instr.slice, hb, hsz]
        · simp [Stp.get] at hu
      · simp [Stp.get] at hu
    · simp [Stp.get] at hu
  · rename_i c td htd
    have ht := hT T td htd
    split at hu
    · rename_i e hk
      have hd := und_slc ht hk
      split at hu
      · rename_i ed hed
        have hsz := (hT e ed hed).run_sizeOf
        unfold evSlice3 at hu
        split at hu
        · rename_i id
          split at hu
          · rename_i ro nl kk s n f lv rv hob
            cases hs : Nat.beq s ed.size with
            | false => simp [hs, Stp.get] at hu
            | true =>
              simp only [hs, cond_true] at hu
              obtain ⟨b0, hu⟩ := test_get hu rfl
              simp only [Bool.and_eq_true, decide_eq_true_eq] at b0
              obtain ⟨b1, b2, b3, b4⟩ := b0
              obtain ⟨i1, i2⟩ := inb_spec b1
              obtain ⟨i3, i4⟩ := inb_spec b2
              simp only [Stp.get, Option.some.injEq] at hu
              subst hu
              obtain rfl := Nat.eq_of_beq_eq_true hs
              refine opOk_val fun o ho E a hA => ?_
              have q1 := optInt_rel hA (x := lo) (fun y hy => by subst hy; simp [Op.operands]) hl
              have q2 := optInt_rel hA (x := hi) (fun y hy => by subst hy; simp [Op.operands]) hh
              have q3 := optInt_rel hA (x := mx) (fun y hy => by subst hy; simp [Op.operands]) hm
              have hv := opnd_in hA (by simp [Op.operands]) hx
              have hid := (hA.rd id (by simp)).trans hob
              have three : ∃ k1 k2 k3, lo.map a.eval = some (.int k1 lv) ∧ hi.map a.eval = some (.int k2 rv) ∧ mx.map a.eval = some (.int k3 c) := by
                cases e1 : lo.map a.eval with
                | none => exact absurd (q1.2 e1) (by simp)
                | some v1 =>
                  obtain ⟨k1, j1, rfl, g1⟩ := q1.1 v1 e1
                  cases e2 : hi.map a.eval with
                  | none => exact absurd (q2.2 e2) (by simp)
                  | some v2 =>
                    obtain ⟨k2, j2, rfl, g2⟩ := q2.1 v2 e2
                    cases e3 : mx.map a.eval with
                    | none => exact absurd (q3.2 e3) (by simp)
                    | some v3 =>
                      obtain ⟨k3, j3, rfl, g3⟩ := q3.1 v3 e3
                      injection g1 with g1
                      injection g2 with g2
                      injection g3 with g3
                      subst g1 g2 g3
                      exact ⟨k1, k2, k3, rfl, rfl, rfl⟩
              obtain ⟨k1, k2, k3, e1, e2, e3⟩ := three
              simp only [RA, RV, RC, hid] at hv
              obtain ⟨_, ⟨hnl, hn0, ev⟩ | ⟨hnl, cap, cs, ev, hcap, hblk, hcs⟩⟩ := hv
              · subst hn0
                have hb := run_sliceBounds3 (P := P) (k1 := k1) (k2 := k2) (k3 := k3) (len := 0) (cap := 0) (w := E.w) (c := c) (r := rv) (l := lv) (by omega) (by omega) (by omega) (by omega) (by omega) (by omega)
                have z1 : c.toNat = 0 := by omega
                have z2 : rv.toNat = 0 := by omega
                have z3 : lv.toNat = 0 := by omega
                rw [z1, z2, z3] at hb
                refine ⟨.slice none 0 0, by simp [execOp, ho, e1, e2, e3, ev, Instr.sliceAt, Go.run_underlying hd, Instr.slice, hb, hsz], ?_⟩
                simp only [RA, RV, RC, hid]
                exact ⟨by omega, .inl (by simp [hnl])⟩
              · have hb := run_sliceBounds3 (P := P) (k1 := k1) (k2 := k2) (k3 := k3) (len := n) (cap := cap) (w := E.w) (c := c) (r := rv) (l := lv) (by omega) (by omega) (by omega) (by omega) (by omega) (by omega)
                refine ⟨_, by simp [execOp, ho, e1, e2, e3, ev, Instr.sliceAt, Go.run_underlying hd, Instr.slice, hb, hsz]; rfl, ?_⟩
                simp only [RA, RV, RC, hid]
                by_cases hcl : c.toNat = lv.toNat
                · rw [if_pos hcl]
                  exact ⟨by omega, .inr ⟨hnl, _, _, rfl, by omega, fun hpos => by omega⟩⟩
                · rw [if_neg hcl]
                  exact ⟨by omega, .inr ⟨hnl, _, _, rfl, by omega, fun hpos => by rw [add_plain]; simp⟩⟩
          · simp [Stp.get] at hu
        · simp [Stp.get] at hu
      · simp [Stp.get] at hu
    · simp [Stp.get] at hu
  · simp [Stp.get] at hu

/-! ### lengths -/
theorem slLen_rel {x : CV} {n : Nat} {r : List Nat} (hx : slLen h x = some (n, r)) {E : Env} (hrd : ∀ id, id ∈ r → E.H id = aget h id) {v : Value} (hv : RC E x v) : ∃ a c, v = .slice a n c ∧ n ≤ c := by
  unfold slLen at hx
  split at hx
  · simp at hx; obtain ⟨rfl, _⟩ := hx; obtain ⟨rfl, _⟩ := hv; exact ⟨_, _, rfl, Nat.le_refl _⟩
  · simp at hx; obtain ⟨rfl, _⟩ := hx; obtain ⟨_, ad, cap, rfl, hc, _⟩ := hv; exact ⟨_, _, rfl, hc⟩
  · split at hx
    · rename_i heq
      simp at hx
      obtain ⟨rfl, rfl⟩ := hx
      have hid := (hrd _ (by simp)).trans heq
      simp only [RC, hid] at hv
      exact hv.slice
    · cases hx
  · split at hx
    · rename_i heq
      simp at hx
      obtain ⟨rfl, rfl⟩ := hx
      have hid := (hrd _ (by simp)).trans heq
      simp only [RC, hid] at hv
      exact hv.slice
    · cases hx
  · split at hx
    · rename_i heq
      simp at hx
      obtain ⟨rfl, rfl⟩ := hx
      have hid := (hrd _ (by simp)).trans heq
      simp only [RC, hid] at hv
      rcases hv with ⟨hln, ⟨_, h0, rfl⟩ | ⟨_, ad, cap, rfl, hc, _⟩⟩
      · rename_i n0 _ _ _ _ _ _ _ _
        exact ⟨none, 0, by congr 1; omega, by omega⟩
      · exact ⟨_, _, rfl, hc⟩
    · cases hx
  · simp at hx
    obtain ⟨rfl, _⟩ := hx
    simp only [RC] at hv
    split at hv
    · obtain ⟨_, ad, cap, rfl, hc, _⟩ := hv
      exact ⟨_, _, rfl, hc⟩
    · exact hv.elim
  · cases hx
theorem evLen_ok {tt : Nat → Option TD} (hT : TT P tt) {T : Nat} {x : VV} (hu : (evLen tt h T x).get = some u) : ∃ n : Int, u = { v := some (.val (goInt n)), rd := u.rd } ∧
    ∀ E : Env, E.ok → (∀ id, id ∈ u.rd → E.H id = aget h id) → ∀ v, RV E x v → ∀ (ats : Array TypeId) (args : Array Value) (ty : TypeId), ats[0]? = some T → args[0]? = some v → (Builtin.len_ ats ty args).run P E.w = .ok (goInt n) E.w := by
  unfold evLen at hu
  split at hu
  · rename_i td htd
    have ht := hT T td htd
    split at hu
    · rename_i s hk
      simp only [Stp.get, Option.some.injEq] at hu
      subst hu
      refine ⟨_, rfl, fun E hE hrd v hv ats args ty h1 h2 => ?_⟩
      obtain ⟨rfl, _⟩ := hv
      simp [Builtin.len_, h1, h2, Go.run_underlying (und_str ht hk)]
    · rename_i n e hk
      simp only [Stp.get, Option.some.injEq] at hu
      subst hu
      refine ⟨_, rfl, fun E hE hrd v hv ats args ty h1 h2 => ?_⟩
      simp [Builtin.len_, h1, h2, Go.run_underlying (und_arr ht hk)]
    · rename_i e x hk
      obtain ⟨⟨n, r⟩, hn, hu⟩ := Stp.of_get hu
      simp only [Stp.get, Option.some.injEq] at hu
      subst hu
      refine ⟨_, rfl, fun E hE hrd v hv ats args ty h1 h2 => ?_⟩
      obtain ⟨a, c, rfl, _⟩ := slLen_rel hn hrd hv
      simp [Builtin.len_, h1, h2, Go.run_underlying (und_slc ht hk)]
    · rename_i a b id hk
      split at hu
      · rename_i kz ka vc vs va l hob
        simp only [Stp.get, Option.some.injEq] at hu
        subst hu
        refine ⟨_, rfl, fun E hE hrd v hv ats args ty h1 h2 => ?_⟩
        have hid := (hrd id (by simp)).trans hob
        simp only [RV, RC, hid] at hv
        subst hv
        obtain ⟨es, cl, hb, hl, _⟩ := hE.obj id _ hid
        have hn := hl.length
        simp only [Array.length_toList] at hn
        simp [Builtin.len_, h1, h2, Go.run_underlying (und_map ht hk), run_getMap hb, hn]
      · simp [Stp.get] at hu
    · simp [Stp.get] at hu
  · simp [Stp.get] at hu

/-! ### conversions that make no memory -/
theorem readSl_rel {e : Nat} {x : CV} {k : CK} {n : Nat} {f : Nat → Nat → PV} {r : List Nat} (hx : readSl h e x = some (k, n, f, r)) {E : Env} (hE : E.ok) (hrd : ∀ id, id ∈ r → E.H id = aget h id) {v : Value} (hv : RC E x v) :
    RowK k n f ∧ ∃ a c, v = .slice a n c ∧ n ≤ c ∧ (a = none → n = 0) ∧ (0 < n → ∃ b o, a = some ⟨b, o, none⟩ ∧ ∀ j, j < n → ∀ k, k < e → ∃ y, E.w.cell? ⟨b, o + j * e + k, none⟩ = some y ∧ RP E.S E.w (f j k) y) := by
  unfold readSl at hx
  split at hx
  · simp at hx; obtain ⟨rfl, rfl, _⟩ := hx; obtain ⟨rfl, _⟩ := hv; exact ⟨fun j hj => absurd hj (by omega), _, _, rfl, Nat.le_refl _, fun _ => rfl, fun h0 => absurd h0 (by omega)⟩
  · rename_i nl kk s m g
    cases hs : Nat.beq s e with
    | false => simp [hs] at hx
    | true =>
      obtain rfl := Nat.eq_of_beq_eq_true hs
      simp only [hs, cond_true, Option.some.injEq, Prod.mk.injEq] at hx
      obtain ⟨rfl, rfl, rfl, rfl⟩ := hx
      obtain ⟨hk, ad, cap, rfl, hc, _, hn0, ha⟩ := hv
      refine ⟨hk, _, _, rfl, hc, fun h => (hn0 h).1, fun h0 => ?_⟩
      obtain ⟨b, o, rfl, _, hcell⟩ := ha h0
      exact ⟨b, o, rfl, hcell⟩
  · rename_i id
    split at hx
    · rename_i ro kk s m g heq
      cases hs : Nat.beq s e with
      | false => simp [hs] at hx
      | true =>
        obtain rfl := Nat.eq_of_beq_eq_true hs
        simp only [hs, cond_true, Option.some.injEq, Prod.mk.injEq] at hx
        obtain ⟨rfl, rfl, rfl, rfl⟩ := hx
        have hid := (hrd _ (by simp)).trans heq
        simp only [RC, hid] at hv
        refine ⟨(hE.obj id _ hid).1, ?_⟩
        rcases hv.2 with ⟨_, h0, rfl⟩ | ⟨hnl, cap, cs, rfl, hc, _⟩
        · exact ⟨none, 0, by rw [h0], by omega, fun _ => h0, fun h => by omega⟩
        obtain ⟨cs, hb, hn, hk, hl, _⟩ := (hE.obj id _ hid).same hnl
        refine ⟨_, _, rfl, hc, fun h => (by cases h), fun h0 => ⟨_, _, rfl, fun j hj k hk => ?_⟩⟩
        obtain ⟨y, hy, hr⟩ := hl j hj k hk
        exact ⟨y, by rw [cells_block hb]; simpa using hy, hr⟩
    · cases hx
  · rename_i id m0
    split at hx
    · rename_i ro kk s m g heq
      cases hs : Nat.beq s e with
      | false => simp [hs] at hx
      | true =>
        obtain rfl := Nat.eq_of_beq_eq_true hs
        simp only [hs, cond_true, Option.some.injEq, Prod.mk.injEq] at hx
        obtain ⟨rfl, rfl, rfl, rfl⟩ := hx
        have hid := (hrd _ (by simp)).trans heq
        simp only [RC, hid] at hv
        have hmn := hv.1
        refine ⟨fun j hj c => (hE.obj id _ hid).1 j (by omega) c, ?_⟩
        rcases hv.2 with ⟨_, h0, rfl⟩ | ⟨hnl, cap, cs, rfl, hc, _⟩
        · exact ⟨none, 0, by rw [show m0 = 0 by omega], by omega, fun _ => by omega, fun h => by omega⟩
        obtain ⟨cs, hb, hn, hk, hl, _⟩ := (hE.obj id _ hid).same hnl
        refine ⟨_, _, rfl, by omega, fun h => (by cases h), fun h0 => ⟨_, _, rfl, fun j hj k hk => ?_⟩⟩
        obtain ⟨y, hy, hr⟩ := hl j (by omega) k hk
        exact ⟨y, by rw [cells_block hb]; simpa using hy, hr⟩
    · cases hx
  · rename_i id lo m
    split at hx
    · rename_i ro kk s m' g heq
      cases hs : Nat.beq s e with
      | false => simp [hs] at hx
      | true =>
        obtain rfl := Nat.eq_of_beq_eq_true hs
        simp only [hs, cond_true, Option.some.injEq, Prod.mk.injEq] at hx
        obtain ⟨rfl, rfl, rfl, rfl⟩ := hx
        have hid := (hrd _ (by simp)).trans heq
        simp only [RC, hid] at hv
        have hln := hv.1
        refine ⟨fun j hj c => (hE.obj id _ hid).1 _ (by omega) c, ?_⟩
        rcases hv.2 with ⟨_, h0, rfl⟩ | ⟨hnl, ad, cap, rfl, hc, ha⟩
        · exact ⟨none, 0, by rw [show m = 0 by omega], by omega, fun _ => by omega, fun h => by omega⟩
        obtain ⟨cs, hb, hn, hk, hl, _⟩ := (hE.obj id _ hid).same hnl
        refine ⟨_, _, rfl, hc, fun h => (by cases h), fun h0 => ?_⟩
        rw [ha h0]
        refine ⟨_, _, rfl, fun j hj k hk => ?_⟩
        obtain ⟨y, hy, hr⟩ := hl (lo + j) (by omega) k hk
        exact ⟨y, by rw [cells_block hb]; rw [Nat.add_mul] at hy; exact hy, hr⟩
    · cases hx
  · cases hx

theorem foldl_push (ns : List Int) : ∀ s : ByteArray, ns.foldl (fun r n => r.push (UInt8.ofNat n.toNat)) s = ⟨s.data ++ (ns.map fun n => UInt8.ofNat n.toNat).toArray⟩ := by
  induction ns with
  | nil => intro s; simp
  | cons n ns ih =>
    intro s
    rw [List.foldl_cons, ih]
    congr 1
    apply Array.ext'
    simp [ByteArray.push]
theorem run_bytes {E : Env} {n : Nat} {a : Option Addr} {c : Nat} {f : Nat → PV} (h0 : 0 < n → ∃ b o, a = some ⟨b, o, none⟩ ∧ ∀ j, j < n → ∃ y, E.w.cell? ⟨b, o + j, none⟩ = some y ∧ RP E.S E.w (f j) y) (hn : a = none → n = 0)
    (hby : ∀ j, j < n → ∃ m, f j = .val (.int .u8 m)) : (Conv.bytesToString (.slice a n c)).run P E.w = .ok (.string ⟨((List.range n).map fun i => ubyte (f i)).toArray⟩) E.w := by
  cases a with
  | none =>
    obtain rfl := hn rfl
    simp [Conv.bytesToString]
    rfl
  | some ad =>
    have hl : (loadCells ad n).run P E.w = .ok (((List.range n).map fun j => numOf (f j)).map (Value.int .u8)).toArray E.w := by
      rw [run_loadCells E.w ad n (fun j => .int .u8 (numOf (f j)))]
      · simp
      · intro j hj
        obtain ⟨b, o, e, hc⟩ := h0 (by omega)
        injection e with e
        subst e
        obtain ⟨y, hy, hr⟩ := hc j hj
        obtain ⟨m, hm⟩ := hby j hj
        rw [hm] at hr ⊢
        obtain ⟨rfl, _⟩ := hr
        rw [add_plain]
        exact hy
    rw [run_bytesToString E.w ad n c _ hl, foldl_push]
    congr 3
    simp only [List.map_map]
    apply Array.ext'
    simp only [Array.toList_append]
    show [] ++ _ = _
    simp only [List.nil_append]
    refine List.map_congr_left fun j hj => ?_
    obtain ⟨m, hm⟩ := hby j (by simpa using hj)
    simp [hm, numOf, ubyte]

theorem pvAt_map (l : List CV) (i : Nat) : pvAt l i = ((l.map pvOf)[i]?).getD (.val undef) := by
  unfold pvAt
  rw [List.getElem?_map]
  cases h : l[i]? with
  | none => rfl
  | some x => cases x <;> rfl
theorem pvAt_rel {E : Env} {l : List CV} {cs : List Value} (hl : RL (RC E) l cs) {i : Nat} {x : CV} (hi : l[i]? = some x) (hp : isPv x = true) : ∃ y, cs[i]? = some y ∧ RP E.S E.w (pvAt l i) y := by
  obtain ⟨y, hy, hr⟩ := hl.get hi
  cases x with
  | pv p => exact ⟨y, hy, by rw [pvAt, hi]; exact hr⟩
  | _ => simp [isPv] at hp

/-- a conversion that makes no memory -/
theorem ok_convert0 {tt : Nat → Option TD} (hT : TT P tt) {S T : Nat} {x : Operand} {p : CV} (hx : opnd t x = some (.c p)) (hal : u.al = []) (hu : (evConvert tt h nx S T p).get = some u) : OpOk P (.convert S T x) t h nx u := by
  have main : ∀ {u : Upd} {q : AV}, u = { v := some q, rd := u.rd } → (∀ E, E.ok → (∀ id, id ∈ u.rd → E.H id = aget h id) → ∀ v, RC E p v → ∃ v', (convert S T v).run P E.w = .ok v' E.w ∧ RA E q v') → OpOk P (.convert S T x) t h nx u := by
    intro u q hu hq
    rw [hu]
    refine opOk_val fun o ho E a hA => ?_
    obtain ⟨v', h1, h2⟩ := hq E hA.ok hA.rd _ (opnd_in hA (by simp [Op.operands]) hx)
    exact ⟨v', by simp [execOp, ho, h1], h2⟩
  unfold evConvert at hu
  split at hu
  · rename_i sd td hsd htd
    have hs := hT S sd hsd
    have ht := hT T td htd
    obtain ⟨ds, hds, _⟩ := hs.und
    split at hu
    · rename_i k k' n hk
      simp only [Stp.get, Option.some.injEq] at hu
      subst hu
      refine main rfl fun E hE hrd v hv => ?_
      obtain ⟨rfl, _⟩ := hv
      refine ⟨_, ?_, rfl, rfl⟩
      simp [convert, Go.run_underlying hds, Go.run_underlying (und_int ht hk), Conv.intToInt]
    · rename_i y hk
      have hd := und_str ht hk
      split at hu
      · rename_i hks
        have hds' := und_str hs hks
        split at hu
        · simp only [Stp.get, Option.some.injEq] at hu
          subst hu
          refine main rfl fun E hE hrd v hv => ?_
          obtain ⟨rfl, _⟩ := hv
          exact ⟨_, by simp [convert, Go.run_underlying hds', Go.run_underlying hd], rfl, rfl⟩
        · simp [Stp.get] at hu
      · rename_i e hks
        have hds' := und_slc hs hks
        split at hu
        · rename_i sz by' z phl hed
          have he := und_int (hT e _ hed) rfl
          split at hu
          · rename_i k n f r hr
            cases hk8 : isU8 k with
            | true =>
              simp only [hk8, cond_true, Stp.get, Option.some.injEq] at hu
              subst hu
              refine main rfl fun E hE hrd v hv => ?_
              obtain ⟨hkk, a, c, rfl, hc, hnil, hcell⟩ := readSl_rel hr hE hrd hv
              refine ⟨_, ?_, rfl, rfl⟩
              rw [run_convert_bytes_string E.w S T e a n c hds' he hd]
              exact run_bytes (f := fun j => f j 0) (fun h0 => by
                obtain ⟨b, o, e1, hcl⟩ := hcell h0
                exact ⟨b, o, e1, fun j hj => by simpa using hcl j hj 0 (by omega)⟩) hnil (fun j hj => isU8_ok hk8 (hkk j hj 0))
            | false =>
              simp only [hk8, cond_false] at hu
              obtain ⟨hn0, hu⟩ := test_get hu rfl
              simp only [Stp.get, Option.some.injEq] at hu
              subst hu
              obtain rfl := Nat.eq_of_beq_eq_true hn0
              refine main rfl fun E hE hrd v hv => ?_
              obtain ⟨hkk, a, c, rfl, hc, hnil, hcell⟩ := readSl_rel hr hE hrd hv
              refine ⟨_, ?_, rfl, rfl⟩
              rw [run_convert_bytes_string E.w S T e a 0 c hds' he hd]
              exact run_bytes (f := fun j => f j 0) (fun h0 => absurd h0 (by omega)) hnil (fun j hj => absurd hj (by omega))
          · split at hu
            · rename_i id base n _
              split at hu
              · rename_i ro l hob
                cases hk8 : isU8 (kindsOf 1 (l.map pvOf)) with
                | false => simp [hk8, Stp.get] at hu
                | true =>
                  simp only [hk8, cond_true, Stp.get, Option.some.injEq] at hu
                  subst hu
                  refine main rfl fun E hE hrd v hv => ?_
                  have hid := (hrd id (by simp)).trans hob
                  simp only [RC, hid] at hv
                  obtain ⟨hln, ad, cap, rfl, hcap, ha⟩ := hv
                  obtain ⟨cs, hb, hl, _⟩ := hE.obj id _ hid
                  refine ⟨_, ?_, rfl, rfl⟩
                  rw [run_convert_bytes_string E.w S T e _ n cap hds' he hd]
                  have hin : ∀ j, j < n → ∃ m, pvAt l (base + j) = .val (.int .u8 m) := by
                    intro j hj
                    have hlt : base + j < l.length := by omega
                    rw [pvAt_map, List.getElem?_eq_getElem (by simpa using hlt)]
                    exact isU8_ok hk8 (kindsOf_ok (i := base + j) (c := 0) (List.getElem?_eq_getElem (by simpa using hlt)) fun _ => by omega)
                  refine (run_bytes (E := E) (f := fun j => pvAt l (base + j)) (fun h0 => ⟨E.ι id, base, by rw [ha h0], fun j hj => ?_⟩) (fun h => by cases h) hin).trans ?_
                  · have hlt : base + j < l.length := by omega
                    obtain ⟨m, hm⟩ := hin j hj
                    have hx : l[base + j]? = some l[base + j] := by simp [hlt]
                    have hpv : isPv l[base + j] = true := by
                      rw [pvAt, hx] at hm
                      generalize l[base + j] = q at hm ⊢
                      cases q with
                      | pv p => rfl
                      | _ => simp [undef] at hm
                    obtain ⟨y, hy, hr⟩ := pvAt_rel hl hx hpv
                    exact ⟨y, by rw [cells_block hb]; simpa using hy, hr⟩
                  · rfl
              · simp [Stp.get] at hu
            · simp [Stp.get] at hu
        · simp [Stp.get] at hu
      · simp [Stp.get] at hu
    · split at hu
      · cases hfx : Nat.beq frx 0 with
        | false => rw [hfx] at hu; simp [Stp.get] at hu
        | true =>
          rw [hfx, cond_true] at hu
          simp only [Stp.get, Option.some.injEq] at hu
          subst hu
          simp at hal
      · simp [Stp.get] at hu
    · exfalso
      split at hu
      · cases hST : (Nat.beq S T && Nat.beq frx 0) with
        | false => rw [hST] at hu; simp [Stp.get] at hu
        | true =>
          rw [hST, cond_true] at hu
          split at hu
          · simp only [Stp.get, Option.some.injEq] at hu
            subst hu
            simp at hal
          · simp [Stp.get] at hu
      · simp [Stp.get] at hu
    · simp [Stp.get] at hu
  · simp [Stp.get] at hu

/-! ### closures -/
theorem opvs_rel {E : Env} {a : Act} {op : Op} : ∀ {l : List Operand} {vs : List AV}, opvs t l = some vs → (∀ x, x ∈ l → x ∈ op.operands.toList) → Ahead E a t h nx op u → RL (RA E) vs (l.map a.eval)
  | [], vs, hl, _, _ => by simp [opvs] at hl; subst hl; exact .nil
  | x :: l, vs, hl, hm, hA => by
    simp only [opvs] at hl
    split at hl
    · rename_i v vs' h1 h2
      injection hl with hl
      subst hl
      exact .cons (opnd_in hA (hm x (by simp)) h1) (opvs_rel h2 (fun y hy => hm y (by simp [hy])) hA)
    · cases hl
theorem capsOf_rel {E : Env} : ∀ {l : List AV} {cs : List (Nat × Nat)} {ys : List Value}, capsOf l = some cs → RL (RA E) l ys → ys = cs.map (fun p => Value.pointer (some ⟨E.ι p.1, p.2, none⟩)) ∧ ∀ p, p ∈ cs → ∃ ro l, E.H p.1 = some (.cells ro l)
  | [], cs, ys, hc, hl => by
    simp [capsOf] at hc
    subst hc
    cases hl
    exact ⟨rfl, fun p hp => by simp at hp⟩
  | x :: l, cs, ys, hc, hl => by
    cases hl with
    | cons h1 h2 =>
      rename_i y r
      unfold capsOf at hc
      split at hc
      · rename_i heq; cases heq
      · rename_i id off l' heq
        injection heq with e1 e2
        subst e1 e2
        cases h3 : capsOf l with
        | none => simp [h3] at hc
        | some cs' =>
          simp only [h3, Option.map_some, Option.some.injEq] at hc
          subst hc
          obtain ⟨e, hm⟩ := capsOf_rel h3 h2
          simp only [RA, RV, RC] at h1
          split at h1
          · rename_i ro l0 heq
            refine ⟨by rw [h1, e]; rfl, fun p hp => ?_⟩
            rcases List.mem_cons.1 hp with rfl | hp
            · exact ⟨ro, l0, heq⟩
            · exact hm p hp
          · exact h1.elim
      · cases hc
theorem ok_makeFunc {f : FuncId} {first caps : Array Operand} {vs : List AV} {cs : List (Nat × Nat)} (hf : first.toList = []) (hc : opvs t caps.toList = some vs) (hcs : capsOf vs = some cs) : OpOk P (.makeFunc (.func f) first caps) t h nx { v := some (.c (.clo f cs)) } := by
  refine opOk_val fun o ho E a hA => ?_
  have hl := opvs_rel hc (fun x hx => by simp [Op.operands]; exact .inr (by simpa using hx)) hA
  obtain ⟨e, hm⟩ := capsOf_rel hcs hl
  have hf' : first = #[] := by apply Array.ext'; simpa using hf
  refine ⟨.func (.func f) #[] (caps.map a.eval), by simp [execOp, ho, Instr.makeFunc, hf'], ?_, hm⟩
  rw [← e]
  congr 1
  apply Array.ext'
  simp

/-! ### least and greatest -/
theorem int2_rel {E : Env} {f : Int → Int → Bool} {x y z : AV} {v w' : Value} (hz : int2 f x y = some z) (hx : RA E x v) (hy : RA E y w') : ∃ k a b, v = .int k a ∧ ∃ k', w' = .int k' b ∧ z = .val (.int k (bif f a b then b else a)) := by
  unfold int2 at hz
  split at hz
  · rename_i k a k' b
    injection hz with hz
    obtain ⟨rfl, _⟩ := hx
    obtain ⟨rfl, _⟩ := hy
    exact ⟨k, a, b, rfl, k', rfl, hz.symm⟩
  · cases hz
theorem run_fold {E : Env} {f : Int → Int → Bool} {g : Value → Value → Sem Value} (hg : ∀ k a k' b, g (.int k a) (.int k' b) = pure (.int k (bif f a b then b else a))) :
    ∀ {l : List AV} {ys : List Value} {x z : AV} {v : Value}, foldInt f x l = some z → RA E x v → RL (RA E) l ys → ∃ v', (ys.foldlM g v).run P E.w = .ok v' E.w ∧ RA E z v'
  | [], ys, x, z, v, hz, hx, hl => by
    cases hl
    simp only [foldInt, Option.some.injEq] at hz
    subst hz
    exact ⟨v, by simp, hx⟩
  | y :: l, ys, x, z, v, hz, hx, hl => by
    cases hl with
    | cons h1 h2 =>
      simp only [foldInt] at hz
      split at hz
      · rename_i z' hz'
        obtain ⟨k, a, b, rfl, k', rfl, rfl⟩ := int2_rel hz' hx h1
        obtain ⟨v', h3, h4⟩ := run_fold hg hz (v := .int k (bif f a b then b else a)) ⟨rfl, rfl⟩ h2
        exact ⟨v', by simp only [List.foldlM_cons, hg, pure_bind]; exact h3, h4⟩
      · cases hz
theorem max2_eq (k : IntKind) (a : Int) (k' : IntKind) (b : Int) : Builtin.max2 (.int k a) (.int k' b) = pure (.int k (bif decide (b > a) then b else a)) := by
  simp only [Builtin.max2]
  by_cases h : b > a <;> simp [h]
theorem min2_eq (k : IntKind) (a : Int) (k' : IntKind) (b : Int) : Builtin.min2 (.int k a) (.int k' b) = pure (.int k (bif decide (b < a) then b else a)) := by
  simp only [Builtin.min2]
  by_cases h : b < a <;> simp [h]
end
end Go.Ve

/- The evaluator ("VE"): maps. -/
import Derived.Test.YtijabmpcicddbaaVe11
import Derived.MapKept
set_option linter.unusedVariables false
set_option linter.unusedSimpArgs false
namespace Go.Ve
section
variable {P : Program} {t : List (Nat × AV)} {h : List (Nat × AObj)} {nx : Nat} {u : Upd}

theorem ble_eq (a b : ByteArray) : (a.toList == b.toList) = true ↔ a = b := by
  rw [beq_iff_eq]
  constructor
  · intro h
    rw [ByteArray.toList_eq, ByteArray.toList_eq] at h
    exact WideShapes.bytes_inj h
  · rintro rfl; rfl
theorem pvIs_val {z : Value} {p : PV} (h : pvIs z p = true) : (∃ k n, p = .val (.int k n) ∧ ∃ n', z = .int k n') ∨ (∃ b, p = .val (.bool b) ∧ ∃ b', z = .bool b') ∨ ∃ s, p = .val (.string s) ∧ ∃ s', z = .string s' := by
  unfold pvIs at h
  split at h
  · rename_i z n' k n; exact .inl ⟨k, n, rfl, n', by rw [eq_of_beq h]⟩
  · exact .inr (.inl ⟨_, rfl, _, rfl⟩)
  · exact .inr (.inr ⟨_, rfl, _, rfl⟩)
  · cases h
/-- two plain cells of one kind -/
theorem pvEq_iff {z : Value} {p q : PV} (hp : pvIs z p = true) (hq : pvIs z q = true) : ∃ a b, p = .val a ∧ q = .val b ∧ (pvEq p q = true ↔ a = b) ∧ eqCell z (.pv p) (.pv q) = some (pvEq p q) := by
  rcases pvIs_val hp with ⟨k, n, rfl, n', rfl⟩ | ⟨x, rfl, x', rfl⟩ | ⟨x, rfl, x', rfl⟩
  · rcases pvIs_val hq with ⟨k2, m, rfl, _, e⟩ | ⟨_, _, _, e⟩ | ⟨_, _, _, e⟩
    · injection e with e1 e2
      subst e1
      exact ⟨_, _, rfl, rfl, by simp [pvEq], by simp [eqCell, pvEq]⟩
    · cases e
    · cases e
  · rcases pvIs_val hq with ⟨_, _, _, _, e⟩ | ⟨y, rfl, _, e⟩ | ⟨_, _, _, e⟩
    · cases e
    · exact ⟨_, _, rfl, rfl, by simp [pvEq], by simp [eqCell, pvEq]⟩
    · cases e
  · rcases pvIs_val hq with ⟨_, _, _, _, e⟩ | ⟨_, _, _, e⟩ | ⟨y, rfl, _, e⟩
    · cases e
    · cases e
    · exact ⟨_, _, rfl, rfl, by show ((x.toList == y.toList) = true) ↔ _; rw [ble_eq]; simp, rfl⟩
theorem keyIs_len {z : List Value} : ∀ {l : List PV}, keyIs z l = true → l.length = z.length := by
  induction z with
  | nil => intro l h; cases l <;> simp_all [keyIs]
  | cons z zs ih => intro l h; cases l <;> simp_all [keyIs]
theorem keyIs_eqCells : ∀ {z : List Value} {l r : List PV}, keyIs z l = true → keyIs z r = true → eqCells z (l.map .pv) (r.map .pv) = some (keyEq l r)
  | [], [], [], _, _ => rfl
  | [z], [p], [q], h1, h2 => by
    simp only [keyIs, Bool.and_eq_true] at h1 h2
    obtain ⟨a, b, rfl, rfl, _, e⟩ := pvEq_iff h1.1 h2.1
    show eqCell z _ _ = some (keyEq _ _)
    rw [e]
    simp [keyEq]
  | z :: z' :: zs, p :: p' :: ps, q :: q' :: qs, h1, h2 => by
    simp only [keyIs, Bool.and_eq_true] at h1 h2
    obtain ⟨a, b, rfl, rfl, _, e⟩ := pvEq_iff h1.1 h2.1
    have ih := keyIs_eqCells (z := z' :: zs) (l := p' :: ps) (r := q' :: qs) (by simp [keyIs, h1.2]) (by simp [keyIs, h2.2])
    simp only [List.map_cons] at ih ⊢
    simp only [eqCells, e, ih]
    rfl
  | [], _ :: _, _, h1, _ => by simp [keyIs] at h1
  | [], [], _ :: _, _, h2 => by simp [keyIs] at h2
  | _ :: _, [], _, h1, _ => by simp [keyIs] at h1
  | _ :: _, _ :: _, [], _, h2 => by simp [keyIs] at h2
  | [z], [p], q :: q' :: qs, _, h2 => by simp [keyIs] at h2
  | [z], p :: p' :: ps, _, h1, _ => by simp [keyIs] at h1
  | z :: z' :: zs, [p], _, h1, _ => by simp [keyIs] at h1
  | z :: z' :: zs, p :: p' :: ps, [q], _, h2 => by simp [keyIs] at h2
theorem keyEq_vals {E : Env} : ∀ {z : List Value} {l r : List PV} {xs ys : List Value}, keyIs z l = true → keyIs z r = true → RL (RC E) (l.map .pv) xs → RL (RC E) (r.map .pv) ys → (keyEq l r = true ↔ xs = ys)
  | [], [], [], _, _, _, _, h3, h4 => by cases h3; cases h4; simp [keyEq]
  | z :: zs, p :: ps, q :: qs, _, _, h1, h2, h3, h4 => by
    simp only [keyIs, Bool.and_eq_true] at h1 h2
    obtain ⟨a, b, rfl, rfl, e, _⟩ := pvEq_iff h1.1 h2.1
    cases h3 with
    | cons g1 g2 =>
      cases h4 with
      | cons g3 g4 =>
        have ih := keyEq_vals h1.2 h2.2 g2 g4
        obtain ⟨rfl, _⟩ := g1
        obtain ⟨rfl, _⟩ := g3
        simp only [keyEq, Bool.and_eq_true, e, ih, List.cons.injEq]
  | [], _ :: _, _, _, _, h1, _, _, _ => by simp [keyIs] at h1
  | [], [], _ :: _, _, _, _, h2, _, _ => by simp [keyIs] at h2
  | _ :: _, [], _, _, _, h1, _, _, _ => by simp [keyIs] at h1
  | _ :: _, _ :: _, [], _, _, _, h2, _, _ => by simp [keyIs] at h2
theorem valEq_keyIs : ∀ {z z' : List Value} {l : List PV}, valEq z z' = true → keyIs z l = keyIs z' l
  | [], [], l, _ => rfl
  | x :: z, y :: z', [], _ => rfl
  | x :: z, y :: z', p :: l, h => by
    simp only [valEq, Bool.and_eq_true] at h
    have ih := valEq_keyIs (l := l) h.2
    simp only [keyIs, ih]
    congr 1
    have h1 := h.1
    unfold valEq.zEq at h1
    split at h1
    · simp only [Bool.and_eq_true, beq_iff_eq] at h1
      rw [h1.1, h1.2]
    · rw [eq_of_beq h1]
    · unfold pvIs
      rename_i a b
      cases p with
      | val v => cases v <;> rfl
      | sl => rfl
    · cases h1
  | [], _ :: _, _, h => by simp [valEq] at h
  | _ :: _, [], _, h => by simp [valEq] at h

/-- what a search for a key has found -/
def Found (l : MapL) (ks : List PV) (es : List MapEntry) (i : Nat) (iv : Value) (r : Option (Nat × Value)) : Prop :=
  (mhas l ks = false ∧ r = none ∧ ∀ v, mput l ks v = l ++ [(ks, v)]) ∨
  (mhas l ks = true ∧ ∃ j p e, r = some (i + j, e.val) ∧ l[j]? = some p ∧ es[j]? = some e ∧ mget l ks = p.2 ∧ e.key = iv ∧ ∀ v, mput l ks v = l.set j (ks, v))
theorem Found.nil {ks : List PV} {i : Nat} {iv : Value} : Found [] ks [] i iv none := .inl ⟨rfl, rfl, fun _ => rfl⟩
theorem Found.head {l : MapL} {ks : List PV} {p : List PV × List PV} {es : List MapEntry} {e : MapEntry} {i : Nat} {iv : Value} (hk : keyEq ks p.1 = true) (he : e.key = iv) : Found (p :: l) ks (e :: es) i iv (some (i, e.val)) :=
  .inr ⟨by simp [mhas, hk], 0, p, e, rfl, rfl, rfl, by simp [mget, hk], he, fun v => by simp [mput, hk]⟩
theorem Found.tail {l : MapL} {ks : List PV} {p : List PV × List PV} {es : List MapEntry} {e : MapEntry} {i : Nat} {iv : Value} {r : Option (Nat × Value)} (hk : keyEq ks p.1 = false) (h : Found l ks es (i + 1) iv r) : Found (p :: l) ks (e :: es) i iv r := by
  rcases h with ⟨h1, h2, h3⟩ | ⟨h1, j, q, x, h2, h3, h4, h5, h6, h7⟩
  · exact .inl ⟨by simp [mhas, hk, h1], h2, fun v => by simp [mput, hk, h3]⟩
  · exact .inr ⟨by simp [mhas, hk, h1], j + 1, q, x, by rw [h2]; congr 2; omega, by simpa using h3, by simpa using h4, by simp [mget, hk, h5], h6, fun v => by simp [mput, hk, h7]⟩

/-- an index into a map, as cells -/
def IX (E : Env) (kd : TD) (ks : List PV) (iv : Value) : Prop := keyIs kd.zero ks = true ∧ RE E (isAgg kd.k) ks iv
theorem toPvs_map : ∀ {l : List CV} {ks : List PV}, toPvs l = some ks → l = ks.map .pv
  | [], ks, h => by simp [toPvs] at h; subst h; rfl
  | .pv p :: r, ks, h => by
    simp only [toPvs] at h
    split at h
    · rename_i l hl
      injection h with h
      subst h
      rw [toPvs_map hl]
      rfl
    · cases h
theorem findPlain {d : TypeDesc} {E : Env} {kz : List Value} {vc : CK} {vs : Nat} {va : Bool} {q : PV} {z iv : Value} (hz : kz = [z]) (hq : pvIs z q = true) (hv : RC E (.pv q) iv) (hs : ∀ p a b, pvIs z p = true → q = .val a → p = .val b → Instr.sameNow d a b = some (pvEq q p)) : ∀ {l : MapL} {es : List MapEntry} {i : Nat}, RL (ME E kz false vc vs va) l es → ∃ r, Instr.findNow d iv es i = some r ∧ Found l [q] es i iv r
  | [], _, i, h => by cases h; exact ⟨none, rfl, Found.nil⟩
  | p :: l, _, i, h => by
    cases h with
    | @cons _ e _ es h1 h2 =>
      obtain ⟨m1, _, _, m4, _⟩ := h1
      obtain ⟨p1, hp1, m5⟩ := m4
      rw [hp1, hz] at m1
      simp only [keyIs, Bool.and_true] at m1
      obtain ⟨a, b, rfl, rfl, e1, _⟩ := pvEq_iff hq m1
      have hv' := hv
      obtain ⟨hiv, _⟩ := hv'
      obtain ⟨hek, _⟩ := m5
      have hsn := hs _ _ _ m1 rfl rfl
      have hkq : keyEq [.val a] p.1 = pvEq (.val a) (.val b) := by rw [hp1]; simp [keyEq]
      cases hb : pvEq (.val a) (.val b) with
      | true =>
        refine ⟨_, ?_, Found.head (hkq.trans hb) ?_⟩
        · simp only [Instr.findNow, hiv, hek, hsn, hb]
        · rw [hek, hiv, e1.1 hb]
      | false =>
        obtain ⟨r, h3, h4⟩ := findPlain (l := l) (es := es) (i := i + 1) hz hq hv hs h2
        refine ⟨r, ?_, Found.tail (hkq.trans hb) h4⟩
        simp only [Instr.findNow, hiv, hek, hsn, hb]
        rw [← hiv]
        exact h3
theorem findAgg {tt : Nat → Option TD} {eqs : Nat → Bool} (hE : EqOk0 P tt eqs) {kt : Nat} {kd : TD} (hkt : tt kt = some kd) (heq : eqs kt = true) {E : Env} {vc : CK} {vs : Nat} {va : Bool} {ks : List PV} {xs : Array Value} (hk : keyIs kd.zero ks = true) (hv : RL (RC E) (ks.map .pv) xs.toList) : ∀ {l : MapL} {es : List MapEntry} {i : Nat}, RL (ME E kd.zero true vc vs va) l es → ∃ r, (Instr.findAsking kt (.agg xs) es i).run P E.w = .ok r E.w ∧ Found l ks es i (.agg xs) r
  | [], _, i, h => by cases h; exact ⟨none, rfl, Found.nil⟩
  | p :: l, _, i, h => by
    cases h with
    | @cons _ e _ es h1 h2 =>
      obtain ⟨m1, _, _, m4, _⟩ := h1
      obtain ⟨cs, hcs, m5⟩ := m4
      have heqc := keyIs_eqCells hk m1
      have hrun := (hE kt kd heq hkt E _ _ xs cs _ heqc hv m5 .eql (.const undef) (.const undef)).2
      cases hb : keyEq ks p.1 with
      | true =>
        refine ⟨_, ?_, Found.head hb ?_⟩
        · rw [Instr.findAsking]
          simp only [Sem.run_bind, hcs, hrun, hb, Result.andThen_ok, if_pos, Sem.run_pure]
        · rw [hcs]
          have := (keyEq_vals hk m1 hv m5).1 hb
          congr 1
          exact (Array.ext' this).symm
      | false =>
        obtain ⟨r, h3, h4⟩ := findAgg hE hkt heq (l := l) (es := es) (i := i + 1) hk hv h2
        refine ⟨r, ?_, Found.tail hb h4⟩
        rw [Instr.findAsking]
        simp only [Sem.run_bind, hcs, hrun, hb, Result.andThen_ok, Bool.false_eq_true, if_false]
        exact h3
theorem key_kinds {tt : Nat → Option TD} {eqs : Nat → Bool} (hT : TT P tt) {kt : Nat} {kd : TD} (hkt : tt kt = some kd) (hk : keyTy tt eqs kt = true) :
    (isAgg kd.k = false ∧ ∃ z d, kd.zero = [z] ∧ P.underlying kt = some d ∧ (∀ p a b q, pvIs z q = true → pvIs z p = true → q = .val a → p = .val b → Instr.sameNow d a b = some (pvEq q p)) ∧ ∀ q a, pvIs z q = true → q = .val a → MapKept.IsKey d a) ∨
    (isAgg kd.k = true ∧ eqs kt = true ∧ ∃ fs, P.underlying kt = some (.struct fs)) := by
  have ht := hT kt kd hkt
  obtain ⟨d, hd, hkd⟩ := ht.und
  unfold keyTy at hk
  rw [hkt] at hk
  simp only at hk
  cases hkk : kd.k with
  | int k =>
    rw [hkk] at hk hkd
    simp only at hk
    split at hk
    · rename_i z n hz
      cases d <;> simp only [kindOk] at hkd
      subst hkd
      have hz' := eq_of_beq hk
      refine .inl ⟨rfl, _, _, hz, hd, fun p a b q hq hp hqa hpb => ?_, fun q a hq hqa => ?_⟩
      · rcases pvIs_val hq with ⟨k1, n1, rfl, _, e1⟩ | ⟨_, _, _, e⟩ | ⟨_, _, _, e⟩
        · rcases pvIs_val hp with ⟨k2, n2, rfl, _, e2⟩ | ⟨_, _, _, e⟩ | ⟨_, _, _, e⟩
          · injection e1 with e1 _
            injection e2 with e2 _
            injection hqa with hqa
            injection hpb with hpb
            subst hqa hpb e1 e2
            simp [Instr.sameNow, pvEq]
          · cases e
          · cases e
        · cases e
        · cases e
      · rcases pvIs_val hq with ⟨k1, n1, rfl, _, e1⟩ | ⟨_, _, _, e⟩ | ⟨_, _, _, e⟩
        · injection e1 with e1 _
          injection hqa with hqa
          subst hqa
          simp [MapKept.IsKey, ← e1, hz']
        · cases e
        · cases e
    · cases hk
  | bool =>
    rw [hkk] at hk hkd
    simp only at hk
    split at hk
    · rename_i z hz
      cases d <;> simp only [kindOk] at hkd
      refine .inl ⟨rfl, _, _, hz, hd, fun p a b q hq hp hqa hpb => ?_, fun q a hq hqa => ?_⟩
      · rcases pvIs_val hq with ⟨_, _, _, _, e⟩ | ⟨x, rfl, _, e1⟩ | ⟨_, _, _, e⟩
        · cases e
        · rcases pvIs_val hp with ⟨_, _, _, _, e⟩ | ⟨y, rfl, _, e2⟩ | ⟨_, _, _, e⟩
          · cases e
          · injection hqa with hqa
            injection hpb with hpb
            subst hqa hpb
            rfl
          · cases e
        · cases e
      · rcases pvIs_val hq with ⟨_, _, _, _, e⟩ | ⟨x, rfl, _, e1⟩ | ⟨_, _, _, e⟩
        · cases e
        · injection hqa with hqa
          subst hqa
          trivial
        · cases e
    · cases hk
  | str =>
    rw [hkk] at hk hkd
    simp only at hk
    split at hk
    · rename_i z hz
      cases d <;> simp only [kindOk] at hkd
      refine .inl ⟨rfl, _, _, hz, hd, fun p a b q hq hp hqa hpb => ?_, fun q a hq hqa => ?_⟩
      · rcases pvIs_val hq with ⟨_, _, _, _, e⟩ | ⟨_, _, _, e⟩ | ⟨x, rfl, _, e1⟩
        · cases e
        · cases e
        · rcases pvIs_val hp with ⟨_, _, _, _, e⟩ | ⟨_, _, _, e⟩ | ⟨y, rfl, _, e2⟩
          · cases e
          · cases e
          · injection hqa with hqa
            injection hpb with hpb
            subst hqa hpb
            show some (x == y) = some (x.toList == y.toList)
            congr 1
            rw [Bool.eq_iff_iff, ble_eq, MapKept.bytes_beq]
      · rcases pvIs_val hq with ⟨_, _, _, _, e⟩ | ⟨_, _, _, e⟩ | ⟨x, rfl, _, e1⟩
        · cases e
        · cases e
        · injection hqa with hqa
          subst hqa
          trivial
    · cases hk
  | strct fs =>
    rw [hkk] at hk hkd
    simp only at hk
    cases d <;> simp only [kindOk] at hkd
    exact .inr ⟨rfl, hk, _, hd⟩
  | arr n e => rw [hkk] at hk; cases hk
  | slc e => rw [hkk] at hk; cases hk
  | ptr e => rw [hkk] at hk; cases hk
  | map a b => rw [hkk] at hk; cases hk
  | oth => rw [hkk] at hk; cases hk
theorem key_search {tt : Nat → Option TD} {eqs : Nat → Bool} (hT : TT P tt) (hE : EqOk0 P tt eqs) (hK : KeysOk P tt eqs) {kt : Nat} {kd : TD} (hkt : tt kt = some kd) (hk : keyTy tt eqs kt = true) {E : Env} {ks : List PV} {iv : Value} (hi : IX E kd ks iv)
    {kz : List Value} (hz : valEq kz kd.zero = true) {ka : Bool} (hka : ka = isAgg kd.k) {vc : CK} {vs : Nat} {va : Bool} {l : MapL} {es : List MapEntry} (hl : RL (ME E kz ka vc vs va) l es) :
    (∃ r, (Instr.findKey kt iv es).run P E.w = .ok r E.w ∧ Found l ks es 0 iv r) ∧ (∀ em, (Instr.checkKey em 10000 kt iv).run P E.w = .ok () E.w) ∧ ∀ w, (Instr.keyThatStays iv iv).run P w = .ok iv w := by
  have hl' : RL (ME E kd.zero ka vc vs va) l es := hl.mono fun p e ⟨m1, m2⟩ => ⟨by rw [← valEq_keyIs hz]; exact m1, m2⟩
  obtain ⟨i1, i2⟩ := hi
  rcases key_kinds hT hkt hk with ⟨ha, z, d, hz1, hd, hs, hik⟩ | ⟨ha, heq, fs, hd⟩
  · rw [ha] at i2 hka
    subst hka
    obtain ⟨q, rfl, hv⟩ := i2
    rw [hz1] at i1
    simp only [keyIs, Bool.and_true] at i1
    obtain ⟨r, h1, h2⟩ := findPlain (i := 0) hz1 i1 hv (fun p a b hp hqa hpb => hs p a b q i1 hp hqa hpb) hl'
    obtain ⟨a, _, rfl, _, _⟩ := pvEq_iff i1 i1
    obtain ⟨rfl, _⟩ := hv
    have hkey := hik _ _ i1 rfl
    exact ⟨⟨r, MapKept.run_findKey hd h1, h2⟩, fun em => MapKept.run_checkKey hd hkey em 9999, fun w => MapKept.run_keyThatStays hkey⟩
  · rw [ha] at i2 hka
    subst hka
    obtain ⟨xs, rfl, hv⟩ := i2
    obtain ⟨r, h1, h2⟩ := findAgg hE hkt heq (i := 0) i1 hv hl'
    refine ⟨?_, fun em => hK kt kd heq hkt E ks xs em i1 hv, fun w => ?_⟩
    · cases es with
      | nil =>
        cases hl'
        refine ⟨none, ?_, Found.nil⟩
        simp [Instr.findKey, Go.run_underlying hd, Instr.findNow]
      | cons e es =>
        refine ⟨r, ?_, h2⟩
        have hn : Instr.findNow (.struct fs) (.agg xs) (e :: es) 0 = none := by
          simp [Instr.findNow, Instr.sameNow]
        simp only [Instr.findKey, Sem.run_bind, Go.run_underlying hd, Result.andThen_ok, hn]
        exact h1
    · have hsb : Instr.sameBits 10000 (.agg xs) (.agg xs) = true := by
        have aux : ∀ {z : List Value} {l : List PV} {ys : List Value}, keyIs z l = true → RL (RC E) (l.map .pv) ys → ((ys.zip ys).all fun (x, y) => Instr.sameBits 9999 x y) = true := by
          intro z
          induction z with
          | nil => intro l ys h1 h2; cases l with
            | nil => cases h2; rfl
            | cons => simp [keyIs] at h1
          | cons z zs ih => intro l ys h1 h2; cases l with
            | nil => simp [keyIs] at h1
            | cons p ps =>
              simp only [keyIs, Bool.and_eq_true] at h1
              cases h2 with
              | cons g1 g2 =>
                simp only [List.zip_cons_cons, List.all_cons, ih h1.2 g2, Bool.and_true]
                rcases pvIs_val h1.1 with ⟨k1, n1, rfl, _⟩ | ⟨x, rfl, _⟩ | ⟨x, rfl, _⟩
                all_goals
                  obtain ⟨rfl, _⟩ := g1
                  simp [Instr.sameBits, MapKept.bytes_beq]
        show (xs.size == xs.size && (xs.toList.zip xs.toList).all fun (x, y) => Instr.sameBits 9999 x y) = true
        simp only [beq_self_eq_true, Bool.true_and]
        exact aux i1 hv
      simp [Instr.keyThatStays, hsb]

theorem run_mk_map (T : TypeId) (w : World) : (Instr.makeMap T none).run P w = .ok (.map (some w.heap.size)) (w.alloc (.map #[] 0)) := rfl
theorem ok_makeMap {tt : Nat → Option TD} (hT : TT P tt) {T : Nat} (hu : (evMakeMap tt nx T).get = some u) : OpOk P (.makeMap T none) t h nx u := by
  unfold evMakeMap at hu
  split at hu
  · split at hu
    · simp only [Stp.get, Option.some.injEq] at hu
      subst hu
      rename_i kd vd _ _
      intro o ho E a hA K Q hK
      obtain ⟨E', hw', hE'⟩ := After.make0 (u := { v := some (.c (.mp nx)), al := [.mapo kd.zero (isAgg kd.k) (kindsOf vd.size (vd.zero.map .val)) vd.size (isAgg vd.k) []] }) (nx := nx) (v := .map (some E.w.heap.size)) (o := .mapo kd.zero (isAgg kd.k) (kindsOf vd.size (vd.zero.map .val)) vd.size (isAgg vd.k) []) (w' := E.w.alloc (.map #[] 0)) hA.ok (by simpa using hA.al 0 (by simp)) rfl (fun p hp => by simp at hp) rfl rfl rfl (by simp)
        (fun b hb => by show (E.w.heap.push _)[b]? = _; rw [Array.getElem?_push, if_neg (by omega)])
        (fun E' hev hH hob hnx hι hw => ⟨#[], 0, by rw [hι, hw]; show (E.w.heap.push _)[E.w.heap.size]? = _; rw [Array.getElem?_push, if_pos rfl], .nil, .nil 0⟩)
        (fun E' hev hH hok hnx hι hw av hav => by
          injection hav with hav
          subst hav
          simp only [RA, RV, RC, hnx, hι])
      refine wp_of_run (v := .map (some E.w.heap.size)) ?_ (hw' ▸ hK _ E' hE')
      simp [execOp, ho, run_mk_map]
    · cases hu
  · cases hu
theorem vv_agg {i : VV} (h : vvAgg i = true) : ∃ l, i = .agg l := by cases i with | agg l => exact ⟨l, rfl⟩ | c => cases h
theorem vv_one {i : VV} (h : vvAgg i = false) : ∃ x, i = .c x := by cases i with | c x => exact ⟨x, rfl⟩ | agg => cases h
theorem ix_of {E : Env} {kd : TD} {i : VV} {ks : List PV} {iv : Value} (hp : toPvs i.cells = some ks) (hk : keyIs kd.zero ks = true) (hi : RV E i iv) (ha : vvAgg i = isAgg kd.k) : IX E kd ks iv := by
  refine ⟨hk, ?_⟩
  have hm := toPvs_map hp
  cases hag : isAgg kd.k with
  | true =>
    obtain ⟨l, rfl⟩ := vv_agg (ha.trans hag)
    obtain ⟨cs, e, hl⟩ := hi
    exact ⟨cs, e, by rw [← hm]; exact hl⟩
  | false =>
    obtain ⟨c, rfl⟩ := vv_one (ha.trans hag)
    simp only [VV.cells] at hm
    cases ks with
    | nil => simp at hm
    | cons p r =>
      simp only [List.map_cons, List.cons.injEq] at hm
      obtain ⟨rfl, hm⟩ := hm
      have : r = [] := by
        cases r with
        | nil => rfl
        | cons => simp at hm
      subst this
      exact ⟨p, rfl, hi⟩
theorem pcells_get {f : Nat → PV} : ∀ {n off i : Nat}, i < n → (pcells f off n)[i]? = some (.pv (f (off + i)))
  | n + 1, off, 0, _ => rfl
  | n + 1, off, i + 1, h => by
    simp only [pcells, List.getElem?_cons_succ]
    rw [pcells_get (by omega), show off + 1 + i = off + (i + 1) by omega]
theorem pcells_len {f : Nat → PV} : ∀ {n off : Nat}, (pcells f off n).length = n
  | 0, _ => rfl
  | n + 1, off => by simp [pcells, pcells_len]
/-- a value of a map, as it is read -/
theorem val_rel {E : Env} {k : TK} {vc : CK} {n : Nat} {l : List PV} {x : Value} {v : VV} (hn : l.length = n) (hk : ∀ c, c < l.length → ckOk (kDrop vc c) (l.getD c (.val undef))) (hr : RE E (isAgg k) l x)
    (hv : pack k (pcells (elemF vc fun c => l.getD c (.val undef)) 0 n) = some v) : RV E v x := by
  have key : ∀ {xs : List Value}, RL (RC E) (l.map .pv) xs → RL (RC E) (pcells (elemF vc fun c => l.getD c (.val undef)) 0 n) xs := by
    intro xs hx
    have hlen := hx.length
    simp only [List.length_map] at hlen
    refine RL.of_get (by rw [pcells_len]; omega) fun i a b ha hb => ?_
    have hi : i < n := by
      have := (List.getElem?_eq_some_iff.1 ha).1
      rwa [pcells_len] at this
    rw [pcells_get hi] at ha
    injection ha with ha
    subst ha
    obtain ⟨a', ha', hab⟩ := hx.get' hb
    rw [List.getElem?_map] at ha'
    obtain ⟨q, hq, rfl⟩ := Option.map_eq_some_iff.1 ha'
    have hg : l.getD i (.val undef) = q := by simp [List.getD, hq]
    have hck := hk i (by omega)
    rw [hg] at hck
    show RP E.S E.w (ckNorm (kDrop vc (0 + i)) (l.getD (0 + i) (.val undef))) b
    rw [Nat.zero_add, hg]
    exact RP.norm hck hab
  unfold pack at hv
  cases hag : isAgg k with
  | true =>
    rw [hag] at hr hv
    simp only [cond_true, Option.some.injEq] at hv
    subst hv
    obtain ⟨cs, e, hl⟩ := hr
    exact ⟨cs, e, key hl⟩
  | false =>
    rw [hag] at hr hv
    simp only [cond_false] at hv
    obtain ⟨p, rfl, hp⟩ := hr
    have := key (xs := [x]) (.cons hp .nil)
    split at hv
    · rename_i y hy
      injection hv with hv
      subst hv
      rw [hy] at this
      cases this with
      | cons h1 _ => exact h1
    · cases hv
theorem ok_lookup {tt : Nat → Option TD} {eqs : Nat → Bool} (hT : TT P tt) (hE : EqOk0 P tt eqs) (hK : KeysOk P tt eqs) {T : Nat} {x y : Operand} {m : CV} {i : VV} {ok : Bool} (hx : opnd t x = some (.v (.c m))) (hy : opv t y = some i) (hu : (evLookup tt eqs h T m i ok).get = some u) : OpOk P (.lookup T x y ok) t h nx u := by
  unfold evLookup at hu
  split at hu
  · rename_i kt vt sz by' z phl htd
    have hd := und_map (hT T _ htd) rfl
    split at hu
    · rename_i kd vd id ks hkt hvt hks
      split at hu
      · rename_i kz ka vc vs va l hob
        cases hc : (keyTy tt eqs kt && valEq kz kd.zero && keyIs kd.zero ks && Nat.beq vs vd.size && (va == isAgg vd.k) && (ka == isAgg kd.k) && (vvAgg i == isAgg kd.k)) with
        | false => rw [hc] at hu; cases hu
        | true =>
          rw [hc, cond_true] at hu
          simp only [Bool.and_eq_true, beq_iff_eq] at hc
          obtain ⟨⟨⟨⟨⟨⟨c1, c2⟩, c3⟩, c4⟩, c5⟩, c6⟩, c7⟩ := hc
          have c4 := Nat.eq_of_beq_eq_true c4
          have base : ∀ {u : Upd} (o : Oper) (E : Env) (a : Act), o.op = .lookup T x y ok → u.rd = [id] → Ahead E a t h nx (.lookup T x y ok) u → ∃ es cl, E.w.heap[E.ι id]? = some (.map es cl) ∧ a.eval x = .map (some (E.ι id)) ∧ ∃ r, (Instr.findKey kt (a.eval y) es.toList).run P E.w = .ok r E.w ∧ Found l ks es.toList 0 (a.eval y) r ∧ (∀ em, (Instr.checkKey em 10000 kt (a.eval y)).run P E.w = .ok () E.w) ∧ RL (ME E kz ka vc vs va) l es.toList := by
            intro u o E a ho hrd hA
            have hid := (hA.rd id (by rw [hrd]; simp)).trans hob
            have hxv := opnd_in hA (by simp [Op.operands]) hx
            have hyv := opv_in hA (by simp [Op.operands]) hy
            simp only [RA, RV, RC, hid] at hxv
            obtain ⟨es, cl, hb, hl, _⟩ := hA.ok.obj id _ hid
            obtain ⟨⟨r, h1, h2⟩, h3, _⟩ := key_search hT hE hK hkt c1 (ix_of hks c3 hyv c7) c2 c6 hl
            exact ⟨es, cl, hb, hxv, r, h1, h2, fun em => h3 em, hl⟩
          have hgo : ∀ {v : VV} {b : Bool} (E : Env), ∀ y', RV E v y' → RA E (bif ok then .tup [v, .c (.pv (.val (.bool b)))] else .v v) (if ok then .tuple #[y', .bool b] else y') := by
            intro v b E y' hr
            cases ok with
            | true => exact ⟨_, rfl, .cons hr (.cons ⟨rfl, rfl⟩ .nil)⟩
            | false => exact hr
          cases hm : mhas l ks with
          | true =>
            simp only [hm, Stp.get, cond_true] at hu
            obtain ⟨v, hv, hu⟩ := Stp.of_get hu
            simp only [Stp.get, Option.some.injEq] at hu
            subst hu
            refine opOk_val fun o ho E a hA => ?_
            obtain ⟨es, cl, hb, hxv, r, hf, hF, hck, hl⟩ := base o E a ho rfl hA
            rcases hF with ⟨h0, _⟩ | ⟨_, j, p, e, hr, hp, he, hg, hkey, _⟩
            · rw [hm] at h0; cases h0
            subst hr
            obtain ⟨e', he', m1, m2, m3, m4, m5⟩ := hl.get hp
            rw [he] at he'
            injection he' with he'
            subst he'
            refine ⟨_, ?_, hgo E e.val (val_rel (by rw [m2, c4]) m3 (by rw [← c5]; exact m5) (by rw [← hg]; exact hv))⟩
            simp only [execOp, ho, Instr.lookup, Sem.run_bind, Go.run_underlying hd, Result.andThen_ok, hxv, run_getMap hb, Sem.run_pure, hck, hf]
          | false =>
            simp only [hm, Stp.get, cond_false] at hu
            obtain ⟨v, hv, hu⟩ := Stp.of_get hu
            simp only [Stp.get, Option.some.injEq] at hu
            subst hu
            refine opOk_val fun o ho E a hA => ?_
            obtain ⟨es, cl, hb, hxv, r, hf, hF, hck, hl⟩ := base o E a ho rfl hA
            rcases hF with ⟨_, rfl, _⟩ | ⟨h0, _⟩
            rotate_left
            · rw [hm] at h0; cases h0
            obtain ⟨zv, hz, hzl⟩ := (hT vt vd hvt).run_zero E.w
            have hzr : RV E v zv := by
              have hrl : RL (RC E) (zeros vd.zero) zv.cells.toList := by rw [hzl]; exact zeros_rel (hT vt vd hvt).one
              have hzagg := zero_agg (hT vt vd hvt) E.w hz
              unfold pack at hv
              cases hag : isAgg vd.k with
              | true =>
                rw [hag] at hv
                simp only [cond_true, Option.some.injEq] at hv
                subst hv
                obtain ⟨cs, rfl⟩ := hzagg.1 hag
                exact ⟨cs, rfl, hrl⟩
              | false =>
                rw [hag] at hv
                simp only [cond_false] at hv
                split at hv
                · rename_i q hq
                  injection hv with hv
                  subst hv
                  rw [hq] at hrl
                  have := hzagg.2 hag
                  rw [this] at hrl
                  cases hrl with
                  | cons g _ => exact g
                · cases hv
            refine ⟨_, ?_, hgo E zv hzr⟩
            simp only [execOp, ho, Instr.lookup, Sem.run_bind, Go.run_underlying hd, Result.andThen_ok, hxv, run_getMap hb, Sem.run_pure, hck, hf, hz]
      · cases hu
    · cases hu
  · cases hu
theorem RL.modify {α β : Type} {R : α → β → Prop} {l : List α} {r : List β} (h : RL R l r) {j : Nat} {a : α} {f : β → β} (ha : ∀ b, r[j]? = some b → R a (f b)) : RL R (l.set j a) (r.modify j f) := by
  induction h generalizing j with
  | nil => simpa using RL.nil
  | cons h1 h2 ih => cases j with
    | zero => simpa using RL.cons (ha _ rfl) h2
    | succ j => simpa using RL.cons h1 (ih fun b hb => ha b (by simpa using hb))
theorem re_of {E E' : Env} {v : VV} {k : TK} {ps : List PV} {y : Value} (hv : RV E v y) (hag : vvAgg v = isAgg k) (hl : v.cells.length = ps.length) (hps : RL (RP E'.S E'.w) ps y.cells.toList) : RE E' (isAgg k) ps y := by
  cases ha : isAgg k with
  | true =>
    obtain ⟨l, rfl⟩ := vv_agg (hag.trans ha)
    obtain ⟨cs, rfl, hr⟩ := hv
    refine ⟨cs, rfl, ?_⟩
    exact hps.map (R' := RC E') (f := CV.pv) (g := _root_.id) (fun _ _ hr => hr) |> fun h => by rwa [List.map_id] at h
  | false =>
    obtain ⟨c, rfl⟩ := vv_one (hag.trans ha)
    have hone : y.cells = #[y] := cells_one (RC.one hv)
    rw [hone] at hps
    cases hps with
    | cons h1 h2 => cases h2; exact ⟨_, rfl, h1⟩
theorem ok_mapUpdate {tt : Nat → Option TD} {eqs : Nat → Bool} (hT : TT P tt) (hE : EqOk0 P tt eqs) (hK : KeysOk P tt eqs) {op : Op} {T : Nat} {x y z : Operand} (hop : op = .mapUpdate T x y z ∨ op = .insert T x y z) {m : CV} {i v : VV} (hx : opnd t x = some (.v (.c m))) (hy : opv t y = some i) (hz : opv t z = some v) (hu : (evMapUpdate tt eqs h T m i v).get = some u) : OpOk P op t h nx u := by
  have hops : x ∈ op.operands.toList ∧ y ∈ op.operands.toList ∧ z ∈ op.operands.toList := by rcases hop with rfl | rfl <;> simp [Op.operands]
  unfold evMapUpdate at hu
  split at hu
  · rename_i kt vt sz by' zz phl htd
    have hd := und_map (hT T _ htd) rfl
    split at hu
    · rename_i kd vd id ks hkt hvt hks
      split at hu
      · rename_i kz ka vc vs va l ps r w hob hfz
        cases hc : (keyTy tt eqs kt && valEq kz kd.zero && keyIs kd.zero ks && Nat.beq vs vd.size && Nat.beq ps.length vd.size && (va == isAgg vd.k) && (ka == isAgg kd.k) && (vvAgg i == isAgg kd.k) && (vvAgg v == isAgg vd.k) && fitsAt vc ps && !(r.contains id)) with
        | false => rw [hc] at hu; cases hu
        | true =>
          rw [hc, cond_true] at hu
          simp only [Bool.and_eq_true, beq_iff_eq, Bool.not_eq_true'] at hc
          obtain ⟨⟨⟨⟨⟨⟨⟨⟨⟨⟨c1, c2⟩, c3⟩, c4⟩, c5⟩, c6⟩, c7⟩, c8⟩, c9⟩, c10⟩, c11⟩ := hc
          have c4 := Nat.eq_of_beq_eq_true c4
          have c5 := Nat.eq_of_beq_eq_true c5
          have hnr : id ∉ r := by simpa using c11
          simp only [Stp.get, Option.some.injEq] at hu
          subst hu
          intro o ho E a hA K Q hK'
          have hE' := hA.ok
          have hid := (hA.rd id (by simp)).trans hob
          have hxv := opnd_in hA hops.1 hx
          have hyv := opv_in hA hops.2.1 hy
          have hzv := opv_in hA hops.2.2 hz
          simp only [RA, RV, RC, hid] at hxv
          obtain ⟨es, cl, hb, hl, hstm⟩ := hE'.obj id _ hid
          have hix := ix_of hks c3 hyv c8
          obtain ⟨⟨rr, hf, hF⟩, hck, hst⟩ := key_search hT hE hK hkt c1 hix c2 c7 hl
          have hlt := (Array.getElem?_eq_some_iff.1 hb).1
          have hfw := frzAll_fw hfz
          have hrd : ∀ id, id ∈ r → E.H id = aget h id := fun id hid => hA.rd id (by simp [hid])
          have hvl : v.cells.length = ps.length := (frzAll_length hfz).symm
          -- the new block
          have step : ∀ (es' : Array MapEntry) (cl' : Nat), (∀ E1 : Env, Ev E E1 → ME E1 kz ka vc vs va (ks, ps) ⟨a.eval y, a.eval z, 0⟩ → RL (ME E1 kz ka vc vs va) (mput l ks ps) es'.toList) → Stm es' cl' →
              (execOp a.eval o).run P E.w = .ok .skip { E.w with heap := E.w.heap.setIfInBounds (E.ι id) (.map es' cl') } → o.wp P a E.w K Q := by
            intro es' cl' hes hstm' hrun
            have hset := MapKept.heap_set (o' := .map es' cl') hb
            obtain ⟨E1, hw1, hE1⟩ := After.write0 (u := { v := none, rd := id :: r, wr := w ++ [(id, .mapo kz ka vc vs va (mput l ks ps))] }) (v := undef) (d := id) (nx := nx) (w' := { E.w with heap := E.w.heap.setIfInBounds (E.ι id) (.map es' cl') }) hE' hid rfl (by simp) (by simp)
              (fun q hq => by
                rcases List.mem_append.1 hq with hq | hq
                · exact .inl ⟨fun e => hnr (e ▸ (hfw q hq).1), hfw.wk hrd q hq⟩
                · simp at hq
                  subst hq
                  exact .inr ⟨rfl, rfl, (by rintro ⟨_, _, e⟩; cases e), .inr rfl⟩)
              (fun hne => absurd rfl hne) rfl rfl rfl (by simp) (fun b hb => hset.2 b hb)
              (fun cs0 ⟨T0, fr0, h0, _⟩ => by rw [hb] at h0; cases h0) (by simp)
              (fun E1 hev hH hr id' o' hc ho' hι hw => by
                rcases hc with rfl | ⟨_, hc, _⟩
                · rw [hH, updH_eq, if_neg (by simp)] at ho'
                  simp [foldH] at ho'
                  subst ho'
                  refine ⟨es', cl', by rw [hι, hw]; exact hset.1, hes E1 hev ?_, hstm'⟩
                  have hfzd : ∀ id o, id ∈ r → aget h id = some o → E1.H id = some (frzObj o) := by
                    intro i2 o2 hi2 ho2
                    rw [hH, updH_eq, if_neg (by simp)]
                    have hne : i2 ≠ id' := fun e => hnr (e ▸ hi2)
                    have := hfw.fold (frzAll_all_in hfz) (E := E) i2 o2 hi2 ho2
                    unfold foldH at this ⊢
                    rw [List.foldl_append]
                    simp only [List.foldl_cons, List.foldl_nil, if_neg hne]
                    exact this
                  have hxs := frzAll_rel hev (fun j oj hj hjr hoj => hr j oj hj (fun e => hnr (e ▸ hjr)) hoj) hfz hrd hfzd hzv.cells
                  refine ⟨by rw [valEq_keyIs c2]; exact c3, c5.trans c4.symm, fun c hcl => ?_, ?_, ?_⟩
                  · have := fitsAt_ok c10 (i := c) (p := ps[c]) (by simp [hcl])
                    simpa [List.getD, hcl] using this
                  · rw [c7]; exact hix.2.mono hev
                  · rw [c6]; exact re_of hzv c9 hvl hxs
                · cases hc)
              (fun E1 _ _ _ _ _ av hav => by cases hav)
            exact wp_of_skip hrun (hw1 ▸ hK' _ E1 hE1)
          have hexec : execOp a.eval o = (do Instr.mapUpdate T (a.eval x) (a.eval y) (a.eval z); pure .skip) := by
            rcases hop with rfl | rfl <;> simp [execOp, ho]
          rcases hF with ⟨_, rfl, hput⟩ | ⟨_, j, p, e, rfl, hp, he, _, hkey, hput⟩
          · refine step (es.push { key := a.eval y, val := a.eval z, born := cl }) (cl + 1) (fun E1 hev hme => ?_) (hstm.push _ _) ?_
            · rw [hput, Array.toList_push]
              exact (hl.mono fun _ _ => ME.mono hev).append (.cons hme .nil)
            · rw [hexec]
              simp [Instr.mapUpdate, Go.run_underlying hd, hxv, run_getMap hb, hck, hf, MapKept.run_setObj_map _ hb]
          · have hej : es[j]? = some e := by rw [← Array.getElem?_toList]; exact he
            refine step (es.modify j fun e => { e with key := a.eval y, val := a.eval z }) cl (fun E1 hev hme => ?_) (hstm.modify _ _ _) ?_
            · rw [hput, Array.toList_modify]
              exact (hl.mono fun _ _ => ME.mono hev).modify fun b hb => hme
            · rw [hexec]
              have hst' := hst E.w
              simp [Instr.mapUpdate, Go.run_underlying hd, hxv, run_getMap hb, hck, hf, hej, hkey, hst', MapKept.run_setObj_map _ hb]
      · cases hu
    · cases hu
  · cases hu
end
/-- what is asked of the types whose values are compared, or are keys -/
def EqOk (P : Program) (tt : Nat → Option TD) (eqs : Nat → Bool) : Prop := EqOk0 P tt eqs ∧ KeysOk P tt eqs
end Go.Ve

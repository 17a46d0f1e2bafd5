/- The evaluator ("VE"): states as patterns with holes. -/
import Derived.Test.YtijabmpcicddbaaVe22
set_option linter.unusedVariables false
set_option linter.unusedSimpArgs false
namespace Go.Ve
inductive Hole where
  | i (n : Int) | b (x : Bool) | s (x : ByteArray) | n (k : Nat) | f (g : Nat → Nat → PV) | v (p : PV) | m (l : List (List PV × List PV))
def gI (h : List Hole) (j : Nat) : Int := match h[j]? with | some (.i n) => n | _ => 0
def gB (h : List Hole) (j : Nat) : Bool := match h[j]? with | some (.b n) => n | _ => false
def gS (h : List Hole) (j : Nat) : ByteArray := match h[j]? with | some (.s n) => n | _ => ⟨#[]⟩
def gN (h : List Hole) (j : Nat) : Nat := match h[j]? with | some (.n n) => n | _ => 0
def gF (h : List Hole) (j : Nat) : Nat → Nat → PV := match h[j]? with | some (.f n) => n | _ => fun _ _ => .val undef
def gV (h : List Hole) (j : Nat) : PV := match h[j]? with | some (.v n) => n | _ => .val undef
def gM (h : List Hole) (j : Nat) : List (List PV × List PV) := match h[j]? with | some (.m n) => n | _ => []

/-- X: what is matched; P: its patterns -/
structure Mt (P X : Type) where
  cnt : P → Nat
  fill : P → Nat → List Hole → X
  un : P → X → Option (List Hole)
  ok : ∀ p x l, un p x = some l → l.length = cnt p ∧ ∀ pre suf, fill p pre.length (pre ++ l ++ suf) = x

theorem get_mid {pre suf : List Hole} {x : Hole} : (pre ++ [x] ++ suf)[pre.length]? = some x := by
  rw [List.append_assoc, List.getElem?_append_right (Nat.le_refl _)]
  simp

/-- one after the other -/
def MtPair {P X Q Y : Type} (m : Mt P X) (n : Mt Q Y) : Mt (P × Q) (X × Y) where
  cnt p := m.cnt p.1 + n.cnt p.2
  fill p i h := (m.fill p.1 i h, n.fill p.2 (i + m.cnt p.1) h)
  un p x := match m.un p.1 x.1 with
    | some l => match n.un p.2 x.2 with
      | some r => some (l ++ r)
      | none => none
    | none => none
  ok := by
    intro p x l h
    split at h
    · rename_i a ha
      split at h
      · rename_i b hb
        injection h with h
        subst h
        obtain ⟨h1, h2⟩ := m.ok _ _ _ ha
        obtain ⟨h3, h4⟩ := n.ok _ _ _ hb
        refine ⟨by simp [h1, h3], fun pre suf => ?_⟩
        have e1 := h2 pre (b ++ suf)
        have e2 := h4 (pre ++ a) suf
        simp only [List.append_assoc, List.length_append] at e1 e2 ⊢
        rw [e1, ← h1, e2]
      · cases h
    · cases h

def lcnt {P X : Type} (m : Mt P X) : List P → Nat
  | [] => 0
  | p :: r => m.cnt p + lcnt m r
def lfill {P X : Type} (m : Mt P X) : List P → Nat → List Hole → List X
  | [], _, _ => []
  | p :: r, i, h => m.fill p i h :: lfill m r (i + m.cnt p) h
def lun {P X : Type} (m : Mt P X) : List P → List X → Option (List Hole)
  | [], [] => some []
  | p :: r, x :: xs => match m.un p x with
    | some l => match lun m r xs with
      | some l' => some (l ++ l')
      | none => none
    | none => none
  | _, _ => none
theorem lok {P X : Type} (m : Mt P X) : ∀ (p : List P) (x : List X) (l : List Hole), lun m p x = some l → l.length = lcnt m p ∧ ∀ pre suf, lfill m p pre.length (pre ++ l ++ suf) = x
  | [], [], l, h => by simp only [lun] at h; injection h with h; subst h; exact ⟨rfl, fun _ _ => rfl⟩
  | [], _ :: _, l, h => by cases h
  | _ :: _, [], l, h => by cases h
  | p :: r, x :: xs, l, h => by
    simp only [lun] at h
    split at h
    · rename_i a ha
      split at h
      · rename_i b hb
        injection h with h
        subst h
        obtain ⟨h1, h2⟩ := m.ok _ _ _ ha
        obtain ⟨h3, h4⟩ := lok m r xs b hb
        refine ⟨by simp [h1, h3, lcnt], fun pre suf => ?_⟩
        have e1 := h2 pre (b ++ suf)
        have e2 := h4 (pre ++ a) suf
        simp only [List.append_assoc, List.length_append, lfill] at e1 e2 ⊢
        rw [e1, ← h1, e2]
      · cases h
    · cases h
def MtList {P X : Type} (m : Mt P X) : Mt (List P) (List X) := ⟨lcnt m, lfill m, lun m, lok m⟩

inductive PB where | h | l (b : Bool)
inductive PN where | h | l (n : Nat)
inductive PI where | h | l (n : Int)
def mB : Mt PB Bool where
  cnt | .h => 1 | .l _ => 0
  fill | .h, i, h => gB h i | .l b, _, _ => b
  un | .h, x => some [.b x] | .l b, x => bif b == x then some [] else none
  ok := by
    intro p x l h
    cases p with
    | h => injection h with h; subst h; exact ⟨rfl, fun pre suf => by simp only [gB, get_mid]⟩
    | l b =>
      simp only at h
      cases hb : b == x with
      | true => rw [hb, cond_true] at h; injection h with h; subst h; exact ⟨rfl, fun _ _ => by simpa using hb⟩
      | false => rw [hb, cond_false] at h; cases h
def mN : Mt PN Nat where
  cnt | .h => 1 | .l _ => 0
  fill | .h, i, h => gN h i | .l b, _, _ => b
  un | .h, x => some [.n x] | .l b, x => bif Nat.beq b x then some [] else none
  ok := by
    intro p x l h
    cases p with
    | h => injection h with h; subst h; exact ⟨rfl, fun pre suf => by simp only [gN, get_mid]⟩
    | l b =>
      simp only at h
      cases hb : Nat.beq b x with
      | true => rw [hb, cond_true] at h; injection h with h; subst h; exact ⟨rfl, fun _ _ => Nat.eq_of_beq_eq_true hb⟩
      | false => rw [hb, cond_false] at h; cases h
def mI : Mt PI Int where
  cnt | .h => 1 | .l _ => 0
  fill | .h, i, h => gI h i | .l b, _, _ => b
  un | .h, x => some [.i x] | .l b, x => bif b == x then some [] else none
  ok := by
    intro p x l h
    cases p with
    | h => injection h with h; subst h; exact ⟨rfl, fun pre suf => by simp only [gI, get_mid]⟩
    | l b =>
      simp only at h
      cases hb : b == x with
      | true => rw [hb, cond_true] at h; injection h with h; subst h; exact ⟨rfl, fun _ _ => by simpa using hb⟩
      | false => rw [hb, cond_false] at h; cases h

def strIs (l : List Nat) (s : ByteArray) : Bool := s.data.toList.map UInt8.toNat == l
def strLit (l : List Nat) : ByteArray := ⟨(l.map UInt8.ofNat).toArray⟩
theorem strIs_eq {l : List Nat} {s : ByteArray} (h : strIs l s = true) : strLit l = s := by
  unfold strIs at h
  have h := eq_of_beq h
  subst h
  obtain ⟨d⟩ := s
  obtain ⟨d⟩ := d
  simp [strLit, List.map_map, Function.comp_def]

def mBN : Mt (PB × PN) (Bool × Nat) := MtPair mB mN
inductive PP where
  | int (k : IntKind) (p : PI) | bool (p : PB) | str | strl (l : List Nat) | nil | nptr | nmap | sl (nl : PB) (k : CK) (esz : Nat) (n : PN) | any
def pcnt : PP → Nat
  | .int _ p => mI.cnt p | .bool p => mB.cnt p | .str => 1 | .strl _ => 0 | .nil => 0 | .nptr => 0 | .nmap => 0 | .sl nl _ _ n => mBN.cnt (nl, n) + 1 | .any => 1
def pfill : PP → Nat → List Hole → PV
  | .int k p, i, h => .val (.int k (mI.fill p i h))
  | .bool p, i, h => .val (.bool (mB.fill p i h))
  | .str, i, h => .val (.string (gS h i))
  | .strl l, i, h => .val (.string (strLit l))
  | .nil, _, _ => .val (.slice none 0 0)
  | .nptr, _, _ => .val (.pointer none)
  | .nmap, _, _ => .val (.map none)
  | .sl nl k e n, i, h => .sl (mBN.fill (nl, n) i h).1 k e (mBN.fill (nl, n) i h).2 (gF h (i + mBN.cnt (nl, n)))
  | .any, i, h => gV h i
def pun : PP → PV → Option (List Hole)
  | .any, x => some [.v x]
  | .int k p, .val (.int j n) => bif k == j then mI.un p n else none
  | .bool p, .val (.bool b) => mB.un p b
  | .str, .val (.string s) => some [.s s]
  | .strl l, .val (.string s) => bif strIs l s then some [] else none
  | .nil, .val (.slice none 0 0) => some []
  | .nptr, .val (.pointer none) => some []
  | .nmap, .val (.map none) => some []
  | .sl nl k e n, .sl nl' k' e' m f => bif ckEq k k' && Nat.beq e e' then match mBN.un (nl, n) (nl', m) with
    | some l => some (l ++ [.f f])
    | none => none
    else none
  | _, _ => none
theorem cond_eq {α : Type} {b : Bool} {x : Option α} {y : α} (h : (bif b then x else none) = some y) : b = true ∧ x = some y := by
  cases b with
  | true => exact ⟨rfl, h⟩
  | false => cases h
def mP : Mt PP PV where
  cnt := pcnt
  fill := pfill
  un := pun
  ok := by
    intro p x l h
    unfold pun at h
    split at h
    · injection h with h; subst h; exact ⟨rfl, fun pre suf => by simp only [pfill, gV, get_mid]⟩
    · obtain ⟨hk, h⟩ := cond_eq h
      obtain ⟨h1, h2⟩ := mI.ok _ _ _ h
      have hk := eq_of_beq hk
      subst hk
      exact ⟨h1, fun pre suf => by simp only [pfill, h2]⟩
    · obtain ⟨h1, h2⟩ := mB.ok _ _ _ h
      exact ⟨h1, fun pre suf => by simp only [pfill, h2]⟩
    · injection h with h; subst h; exact ⟨rfl, fun pre suf => by simp only [pfill, gS, get_mid]⟩
    · obtain ⟨hk, h⟩ := cond_eq h
      injection h with h; subst h
      exact ⟨rfl, fun pre suf => by simp only [pfill, strIs_eq hk]⟩
    · injection h with h; subst h; exact ⟨rfl, fun _ _ => rfl⟩
    · injection h with h; subst h; exact ⟨rfl, fun _ _ => rfl⟩
    · injection h with h; subst h; exact ⟨rfl, fun _ _ => rfl⟩
    · rename_i l0 k0 e0 n0 l1 k1 e1 m1 f1
      obtain ⟨hk, h⟩ := cond_eq h
      split at h
      · rename_i a ha
        injection h with h
        subst h
        obtain ⟨h1, h2⟩ := mBN.ok _ _ _ ha
        rw [Bool.and_eq_true] at hk
        obtain ⟨k1, k2⟩ := hk
        have k1 := ckEq_eq k1
        have k2 := Nat.eq_of_beq_eq_true k2
        subst k1
        subst k2
        refine ⟨by simp [pcnt, h1], fun pre suf => ?_⟩
        have e := h2 pre ([Hole.f f1] ++ suf)
        simp only [pfill]
        rw [show pre ++ (a ++ [Hole.f f1]) ++ suf = pre ++ a ++ ([Hole.f f1] ++ suf) by simp [List.append_assoc], e]
        congr 1
        rw [← h1, show pre ++ a ++ ([Hole.f f1] ++ suf) = (pre ++ a) ++ [Hole.f f1] ++ suf by simp [List.append_assoc], ← List.length_append]
        simp only [gF, get_mid]
      · cases h
    · cases h

inductive PC where
  | pv (p : PP) | dead | ptr (id off : Nat) | ept (id : Nat) (i : PN) (off : Nat) | own (id : Nat) | pre (id : Nat) (m : PN) | sub (id : Nat) (lo n : PN) | csl (id base n esz : Nat) | mp (id : Nat) | clo (f : Nat) (caps : List (Nat × Nat))
def natsEq : List (Nat × Nat) → List (Nat × Nat) → Bool
  | [], [] => true
  | (a, b) :: l, (c, d) :: r => Nat.beq a c && Nat.beq b d && natsEq l r
  | _, _ => false
theorem natsEq_eq : ∀ {l r : List (Nat × Nat)}, natsEq l r = true → l = r
  | [], [], _ => rfl
  | [], _ :: _, h => by cases h
  | _ :: _, [], h => by cases h
  | (a, b) :: l, (c, d) :: r, h => by
    simp only [natsEq, Bool.and_eq_true] at h
    rw [Nat.eq_of_beq_eq_true h.1.1, Nat.eq_of_beq_eq_true h.1.2, natsEq_eq h.2]
def mNN : Mt (PN × PN) (Nat × Nat) := MtPair mN mN
def mC : Mt PC CV where
  cnt | .pv p => mP.cnt p | .ept _ i _ => mN.cnt i | .pre _ m => mN.cnt m | .sub _ a b => mNN.cnt (a, b) | _ => 0
  fill
    | .pv p, i, h => .pv (mP.fill p i h)
    | .dead, _, _ => .dead
    | .ptr a b, _, _ => .ptr a b
    | .ept a x b, i, h => .ept a (mN.fill x i h) b
    | .own a, _, _ => .own a
    | .pre a x, i, h => .pre a (mN.fill x i h)
    | .sub a x y, i, h => .sub a (mNN.fill (x, y) i h).1 (mNN.fill (x, y) i h).2
    | .csl a b c d, _, _ => .csl a b c d
    | .mp a, _, _ => .mp a
    | .clo f c, _, _ => .clo f c
  un
    | .pv p, .pv x => mP.un p x
    | .dead, .dead => some []
    | .ptr a b, .ptr a' b' => bif Nat.beq a a' && Nat.beq b b' then some [] else none
    | .ept a x b, .ept a' y b' => bif Nat.beq a a' && Nat.beq b b' then mN.un x y else none
    | .own a, .own a' => bif Nat.beq a a' then some [] else none
    | .pre a x, .pre a' y => bif Nat.beq a a' then mN.un x y else none
    | .sub a x y, .sub a' x' y' => bif Nat.beq a a' then mNN.un (x, y) (x', y') else none
    | .csl a b c d, .csl a' b' c' d' => bif Nat.beq a a' && Nat.beq b b' && Nat.beq c c' && Nat.beq d d' then some [] else none
    | .mp a, .mp a' => bif Nat.beq a a' then some [] else none
    | .clo f c, .clo f' c' => bif Nat.beq f f' && natsEq c c' then some [] else none
    | _, _ => none
  ok := by
    intro p x l h
    split at h
    · obtain ⟨h1, h2⟩ := mP.ok _ _ _ h
      exact ⟨h1, fun pre suf => by simp only [h2]⟩
    · injection h with h; subst h; exact ⟨rfl, fun _ _ => rfl⟩
    · obtain ⟨hk, h⟩ := cond_eq h
      simp only [Bool.and_eq_true] at hk
      injection h with h; subst h
      exact ⟨rfl, fun _ _ => by simp only [Nat.eq_of_beq_eq_true hk.1, Nat.eq_of_beq_eq_true hk.2]⟩
    · obtain ⟨hk, h⟩ := cond_eq h
      simp only [Bool.and_eq_true] at hk
      obtain ⟨h1, h2⟩ := mN.ok _ _ _ h
      exact ⟨h1, fun pre suf => by simp only [h2, Nat.eq_of_beq_eq_true hk.1, Nat.eq_of_beq_eq_true hk.2]⟩
    · obtain ⟨hk, h⟩ := cond_eq h
      injection h with h; subst h
      exact ⟨rfl, fun _ _ => by simp only [Nat.eq_of_beq_eq_true hk]⟩
    · obtain ⟨hk, h⟩ := cond_eq h
      obtain ⟨h1, h2⟩ := mN.ok _ _ _ h
      exact ⟨h1, fun pre suf => by simp only [h2, Nat.eq_of_beq_eq_true hk]⟩
    · obtain ⟨hk, h⟩ := cond_eq h
      obtain ⟨h1, h2⟩ := mNN.ok _ _ _ h
      exact ⟨h1, fun pre suf => by simp only [h2, Nat.eq_of_beq_eq_true hk]⟩
    · obtain ⟨hk, h⟩ := cond_eq h
      simp only [Bool.and_eq_true] at hk
      injection h with h; subst h
      exact ⟨rfl, fun _ _ => by simp only [Nat.eq_of_beq_eq_true hk.1.1.1, Nat.eq_of_beq_eq_true hk.1.1.2, Nat.eq_of_beq_eq_true hk.1.2, Nat.eq_of_beq_eq_true hk.2]⟩
    · obtain ⟨hk, h⟩ := cond_eq h
      injection h with h; subst h
      exact ⟨rfl, fun _ _ => by simp only [Nat.eq_of_beq_eq_true hk]⟩
    · obtain ⟨hk, h⟩ := cond_eq h
      simp only [Bool.and_eq_true] at hk
      injection h with h; subst h
      exact ⟨rfl, fun _ _ => by simp only [Nat.eq_of_beq_eq_true hk.1, natsEq_eq hk.2]⟩
    · cases h

inductive PVV where | c (x : PC) | agg (l : List PC)
def mCL : Mt (List PC) (List CV) := MtList mC
def mVV : Mt PVV VV where
  cnt | .c x => mC.cnt x | .agg l => mCL.cnt l
  fill | .c x, i, h => .c (mC.fill x i h) | .agg l, i, h => .agg (mCL.fill l i h)
  un | .c p, .c x => mC.un p x | .agg p, .agg x => mCL.un p x | _, _ => none
  ok := by
    intro p x l h
    split at h
    · obtain ⟨h1, h2⟩ := mC.ok _ _ _ h
      exact ⟨h1, fun pre suf => by simp only [h2]⟩
    · obtain ⟨h1, h2⟩ := mCL.ok _ _ _ h
      exact ⟨h1, fun pre suf => by simp only [h2]⟩
    · cases h
inductive PAV where | v (x : PVV) | tup (l : List PVV)
def mVL : Mt (List PVV) (List VV) := MtList mVV
def mAV : Mt PAV AV where
  cnt | .v x => mVV.cnt x | .tup l => mVL.cnt l
  fill | .v x, i, h => .v (mVV.fill x i h) | .tup l, i, h => .tup (mVL.fill l i h)
  un | .v p, .v x => mVV.un p x | .tup p, .tup x => mVL.un p x | _, _ => none
  ok := by
    intro p x l h
    split at h
    · obtain ⟨h1, h2⟩ := mVV.ok _ _ _ h
      exact ⟨h1, fun pre suf => by simp only [h2]⟩
    · obtain ⟨h1, h2⟩ := mVL.ok _ _ _ h
      exact ⟨h1, fun pre suf => by simp only [h2]⟩
    · cases h
inductive PO where | dead | cells (ro : PB) (l : List PC) | parr (ro nl : PB) (k : CK) (esz : Nat) (n : PN) | mapo (kz : List Value) (ka : Bool) (vc : CK) (vs : Nat) (va : Bool)
def mRC : Mt (PB × List PC) (Bool × List CV) := MtPair mB mCL
def mRN : Mt (PB × PB × PN) (Bool × Bool × Nat) := MtPair mB (MtPair mB mN)
theorem valEq_eq : ∀ {l r : List Value}, zerosEq l r = true → l = r := fun h => (zerosEq_spec h).1
def mO : Mt PO AObj where
  cnt | .dead => 0 | .cells ro l => mRC.cnt (ro, l) | .parr ro nl _ _ n => mRN.cnt (ro, nl, n) + 1 | .mapo _ _ _ _ _ => 1
  fill
    | .dead, _, _ => .dead
    | .cells ro l, i, h => .cells (mRC.fill (ro, l) i h).1 (mRC.fill (ro, l) i h).2
    | .parr ro nl k e n, i, h => .parr (mRN.fill (ro, nl, n) i h).1 (mRN.fill (ro, nl, n) i h).2.1 k e (mRN.fill (ro, nl, n) i h).2.2 (gF h (i + mRN.cnt (ro, nl, n)))
    | .mapo kz ka vc vs va, i, h => .mapo kz ka vc vs va (gM h i)
  un
    | .dead, .dead => some []
    | .cells ro l, .cells ro' l' => mRC.un (ro, l) (ro', l')
    | .parr ro nl k e n, .parr ro' nl' k' e' n' f => bif ckEq k k' && Nat.beq e e' then match mRN.un (ro, nl, n) (ro', nl', n') with
      | some l => some (l ++ [.f f])
      | none => none
      else none
    | .mapo kz ka vc vs va, .mapo kz' ka' vc' vs' va' l => bif zerosEq kz kz' && (ka == ka') && (ckEq vc vc' && Nat.beq vs vs' && (va == va')) then some [.m l] else none
    | _, _ => none
  ok := by
    intro p x l h
    split at h
    · injection h with h; subst h; exact ⟨rfl, fun _ _ => rfl⟩
    · obtain ⟨h1, h2⟩ := mRC.ok _ _ _ h
      exact ⟨h1, fun pre suf => by simp only [h2]⟩
    · rename_i ro0 nl0 k0 e0 n0 ro1 nl1 k1 e1 m1 f1
      obtain ⟨hk, h⟩ := cond_eq h
      split at h
      · rename_i a ha
        injection h with h
        subst h
        obtain ⟨h1, h2⟩ := mRN.ok _ _ _ ha
        rw [Bool.and_eq_true] at hk
        obtain ⟨k1, k2⟩ := hk
        have k1 := ckEq_eq k1
        have k2 := Nat.eq_of_beq_eq_true k2
        subst k1
        subst k2
        refine ⟨by simp [h1], fun pre suf => ?_⟩
        have e := h2 pre ([Hole.f f1] ++ suf)
        rw [show pre ++ (a ++ [Hole.f f1]) ++ suf = pre ++ a ++ ([Hole.f f1] ++ suf) by simp [List.append_assoc]]
        simp only [e]
        congr 1
        rw [← h1, show pre ++ a ++ ([Hole.f f1] ++ suf) = (pre ++ a) ++ [Hole.f f1] ++ suf by simp [List.append_assoc], ← List.length_append]
        simp only [gF, get_mid]
      · cases h
    · obtain ⟨hk, h⟩ := cond_eq h
      injection h with h
      subst h
      simp only [Bool.and_eq_true, beq_iff_eq] at hk
      obtain ⟨⟨k1, k2⟩, ⟨k3, k4⟩, k5⟩ := hk
      refine ⟨rfl, fun pre suf => ?_⟩
      simp only [gM, get_mid, valEq_eq k1, k2, ckEq_eq k3, Nat.eq_of_beq_eq_true k4, k5]
    · cases h
/-- numbered things: the numbers stand in the pattern -/
def mNum {P X : Type} (m : Mt P X) : Mt (Nat × P) (Nat × X) where
  cnt p := m.cnt p.2
  fill p i h := (p.1, m.fill p.2 i h)
  un p x := bif Nat.beq p.1 x.1 then m.un p.2 x.2 else none
  ok := by
    intro p x l h
    obtain ⟨hk, h⟩ := cond_eq h
    obtain ⟨h1, h2⟩ := m.ok _ _ _ h
    refine ⟨h1, fun pre suf => ?_⟩
    rw [h2, Nat.eq_of_beq_eq_true hk]
def mT : Mt (List (Nat × PAV)) (List (Nat × AV)) := MtList (mNum mAV)
def mH : Mt (List (Nat × PO)) (List (Nat × AObj)) := MtList (mNum mO)
def mTH : Mt (List (Nat × PAV) × List (Nat × PO)) (List (Nat × AV) × List (Nat × AObj)) := MtPair mT mH
structure PSt where
  n : Nat
  m : Nat
  t : List (Nat × PAV)
  h : List (Nat × PO)
  nx : Nat
def stFill (p : PSt) (h : List Hole) : St := { n := p.n, m := p.m, t := (mTH.fill (p.t, p.h) 0 h).1, h := (mTH.fill (p.t, p.h) 0 h).2, nx := p.nx }
def stUn (p : PSt) (s : St) : Option (List Hole) := bif Nat.beq p.n s.n && Nat.beq p.m s.m && Nat.beq p.nx s.nx then mTH.un (p.t, p.h) (s.t, s.h) else none
theorem stUn_ok {p : PSt} {s : St} {l : List Hole} (h : stUn p s = some l) : stFill p l = s := by
  obtain ⟨hk, h⟩ := cond_eq h
  simp only [Bool.and_eq_true] at hk
  obtain ⟨_, h2⟩ := mTH.ok _ _ _ h
  have := h2 [] []
  simp only [List.length_nil, List.nil_append, List.append_nil] at this
  unfold stFill
  rw [this, Nat.eq_of_beq_eq_true hk.1.1, Nat.eq_of_beq_eq_true hk.1.2, Nat.eq_of_beq_eq_true hk.2]
structure PAr where
  a : List PAV
  h : List PO
def mAH : Mt (List PAV × List PO) (List AV × List AObj) := MtPair (MtList mAV) (MtList mO)
def arFill (p : PAr) (h : List Hole) : List AV × List AObj := mAH.fill (p.a, p.h) 0 h
theorem arUn_ok {p : PAr} {s : List AV × List AObj} {l : List Hole} (h : mAH.un (p.a, p.h) s = some l) : arFill p l = s := by
  obtain ⟨_, h2⟩ := mAH.ok _ _ _ h
  have := h2 [] []
  simpa [arFill] using this

/-! ### functions -/
def smOf : List (PAr × (List Hole → FK → Option Out)) → Sm
  | [], _, _ => none
  | (p, F) :: l, args, hs => match mAH.un (p.a, p.h) (args, hs) with
    | some h => some (F h)
    | none => smOf l args hs
def AltsOk (P : Program) (f : Nat) (l : List (PAr × (List Hole → FK → Option Out))) : Prop := ∀ p F, (p, F) ∈ l → ∀ h, CallAt P f (arFill p h).1 (arFill p h).2 (F h)
theorem alts_nil {P : Program} {f : Nat} : AltsOk P f [] := fun p F h => by cases h
theorem alts_cons {P : Program} {f : Nat} {p : PAr} {F : List Hole → FK → Option Out} {l : List (PAr × (List Hole → FK → Option Out))} (h : ∀ h, CallAt P f (arFill p h).1 (arFill p h).2 (F h)) (hl : AltsOk P f l) : AltsOk P f ((p, F) :: l) := by
  intro p' F' hm
  rcases List.mem_cons.1 hm with e | hm
  · injection e with e1 e2; subst e1; subst e2; exact h
  · exact hl p' F' hm
theorem smOf_ok {P : Program} {f : Nat} : ∀ {l : List (PAr × (List Hole → FK → Option Out))}, AltsOk P f l → SumOk P f (smOf l)
  | [], _, args, hs, G, h => by cases h
  | (p, F) :: l, ha, args, hs, G, h => by
    have ih := smOf_ok (l := l) fun p F hm => ha p F (List.mem_cons_of_mem _ hm)
    simp only [smOf] at h
    split at h
    · rename_i x hx
      injection h with h
      subst h
      have h3 := ha p F (List.mem_cons_self ..) x
      have := arUn_ok hx
      rw [this] at h3
      exact h3
    · exact ih args hs G h

/-- without what is told of one function -/
def dropS (f : Nat) (S : List (Nat × Sm)) : List (Nat × Sm) := match S with
  | [] => []
  | (g, x) :: r => bif Nat.beq g f then dropS f r else (g, x) :: dropS f r
theorem aget_dropS {f : Nat} : ∀ {S : List (Nat × Sm)} {g : Nat} {x : Sm}, aget (dropS f S) g = some x → aget S g = some x
  | [], g, x, h => by cases h
  | (y, u) :: r, g, x, h => by
    simp only [dropS] at h
    simp only [aget]
    cases hb : Nat.beq y f with
    | true =>
      rw [hb, cond_true] at h
      have hy := Nat.eq_of_beq_eq_true hb
      by_cases hg : g = y
      · exfalso
        subst hg
        have key : ∀ {S : List (Nat × Sm)}, aget (dropS f S) g = none := by
          intro S
          induction S with
          | nil => rfl
          | cons p l ih =>
            obtain ⟨a, b⟩ := p
            simp only [dropS]
            cases hc : Nat.beq a f with
            | true => rw [cond_true]; exact ih
            | false =>
              rw [cond_false]
              simp only [aget]
              have : g ≠ a := fun e => by rw [← e, hb] at hc; cases hc
              rw [beq_false this, cond_false]
              exact ih
        rw [key] at h
        cases h
      · rw [beq_false hg, cond_false]
        exact aget_dropS h
    | false =>
      rw [hb, cond_false] at h
      simp only [aget] at h
      by_cases hg : g = y
      · subst hg; rw [Nat.beq_refl, cond_true] at h ⊢; exact h
      · rw [beq_false hg, cond_false] at h ⊢; exact aget_dropS h
theorem dropS_ok {P : Program} {S : List (Nat × Sm)} {f : Nat} (h : SumsOk P S) : SumsOk P (dropS f S) := fun g x hx => h g x (aget_dropS hx)

/-! ### loops -/
def bkOf : List (PSt × (List Hole → Kont → Option Out)) → Hk
  | [], _ => none
  | (p, F) :: l, st => match stUn p st with
    | some h => some (F h)
    | none => bkOf l st
def BltsOk (P : Program) (c : Code) (l : List (PSt × (List Hole → Kont → Option Out))) : Prop := ∀ p F, (p, F) ∈ l → ∀ h, BodyAt P c (stFill p h) (F h)
theorem blts_nil {P : Program} {c : Code} : BltsOk P c [] := fun p F h => by cases h
theorem blts_cons {P : Program} {c : Code} {p : PSt} {F : List Hole → Kont → Option Out} {l : List (PSt × (List Hole → Kont → Option Out))} (h : ∀ h, BodyAt P c (stFill p h) (F h)) (hl : BltsOk P c l) : BltsOk P c ((p, F) :: l) := by
  intro p' F' hm
  rcases List.mem_cons.1 hm with e | hm
  · injection e with e1 e2; subst e1; subst e2; exact h
  · exact hl p' F' hm
theorem bkOf_at {P : Program} {c : Code} : ∀ {l : List (PSt × (List Hole → Kont → Option Out))}, BltsOk P c l → HkOk P c (bkOf l)
  | [], _, st, G, h => by cases h
  | (p, F) :: l, ha, st, G, h => by
    have ih := bkOf_at (l := l) fun p F hm => ha p F (List.mem_cons_of_mem _ hm)
    simp only [bkOf] at h
    split at h
    · rename_i x hx
      injection h with h
      subst h
      rw [← stUn_ok hx]
      exact ha p F (List.mem_cons_self ..) x
    · exact ih st G h
theorem bkOf_ok {P : Program} {c : Code} {live : List Nat} {nl : List (Nat × CK × Nat)} {l : List (PSt × (List Hole → Kont → Option Out))} (h : BltsOk P c l) : HkOk P c (hookG live nl (bkOf l)) := hook_ok (bkOf_at h)
theorem blk_nil {P : Program} {fn : Func} : ∀ id g, (aget ([] : List (Nat × Hk)) id) = some g → HkOk P (codeAt fn id) g := fun _ _ h => by cases h
theorem blk_cons {P : Program} {fn : Func} {i : Nat} {g : Hk} {l : List (Nat × Hk)} (h : HkOk P (codeAt fn i) g) (hl : ∀ id g, aget l id = some g → HkOk P (codeAt fn id) g) : ∀ id g', aget ((i, g) :: l) id = some g' → HkOk P (codeAt fn id) g' := by
  intro id g' hg
  simp only [aget] at hg
  by_cases hf : id = i
  · subst hf; rw [Nat.beq_refl, cond_true] at hg; injection hg with hg; subst hg; exact h
  · rw [beq_false hf, cond_false] at hg; exact hl id g' hg
theorem hooks_add {P : Program} {f : Nat} {fn : Func} (hf : P.funcs[f]? = some fn) (hn : blocksB fn = true) {l : List (Nat × Hk)} (h : ∀ id g, aget l id = some g → HkOk P (codeAt fn id) g) {B : Hooks} (hB : HooksOk P B) : HooksOk P ((f, l) :: B) := by
  refine hooks_cons (fun fn' c hf' hc => ?_) hB
  rw [hf] at hf'
  injection hf' with hf'
  subst hf'
  exact hooked_of hn h c hc
def loopBody : Code → Code
  | .block _ (.loop c) => c
  | .loop c => c
  | _ => .skip
end Go.Ve

/- The evaluator ("VE"): definitions alone. A small abstract interpreter over the program's code: an abstract heap of numbered objects, read-only slices as functions, owned arrays; in continuation-passing style. -/
import Derived.WalkKit
import Derived.KernelRfl
import Derived.Test.YtijabmpcicddbaaVe0
namespace Go.Ve

/-- what is known of the cells of a row's elements, cell by cell -/
inductive CK where
  | nil
  | any (r : CK)
  | int (k : IntKind) (r : CK)
  | bool (r : CK)
  | str (r : CK)
  | sl (a : CK) (esz : Nat) (r : CK)

/-- What never changes: a plain value, or a slice that nobody writes any more (is it nil? cells of an element, elements, contents). -/
inductive PV where
  | val (v : Value)
  | sl (nl : Bool) (k : CK) (esz n : Nat) (f : Nat → Nat → PV)

/-- What one cell holds. -/
inductive CV where
  | pv (p : PV)
  | dead
  | ptr (id off : Nat)
  | ept (id i off : Nat)
  | pel (esz : Nat) (f : Nat → PV) (off : Nat)
  | own (id : Nat)
  | pre (id m : Nat)
  | sub (id lo n : Nat)
  | csl (id lo n esz : Nat)
  | mp (id : Nat)
  | clo (f : FuncId) (caps : List (Nat × Nat))

inductive VV where
  | c (x : CV)
  | agg (l : List CV)

inductive AV where
  | v (x : VV)
  | tup (l : List VV)

inductive AObj where
  | dead
  | cells (ro : Bool) (l : List CV)
  | parr (ro nl : Bool) (k : CK) (esz n : Nat) (f : Nat → Nat → PV)
  /-- a map: its keys' zeros, are they aggregates; kinds of its values' cells, how many, are they aggregates; its entries -/
  | mapo (kz : List Value) (ka : Bool) (vc : CK) (vs : Nat) (va : Bool) (l : List (List PV × List PV))

abbrev AV.c (x : CV) : AV := .v (.c x)
abbrev AV.val (v : Value) : AV := .v (.c (.pv (.val v)))
abbrev AV.i (n : Int) : AV := .val (.int .i64 n)
abbrev AV.b (b : Bool) : AV := .val (.bool b)

/-! ### types -/
inductive TK where
  | int (k : IntKind) | bool | str
  | strct (fs : List (Nat × Nat))
  | arr (n e : Nat) | slc (e : Nat) | ptr (e : Nat) | map (k v : Nat) | oth
structure TD where
  k : TK
  size : Nat
  bytes : Nat
  zero : List Value
  /-- cells of this type that are nil slices become slices of one's own: kinds and cells of an element -/
  ph : List (Nat × CK × Nat) := []

/-! ### assoc lists -/
def aget {α : Type} : List (Nat × α) → Nat → Option α
  | [], _ => none
  | (y, v) :: r, x => bif Nat.beq x y then some v else aget r x
def aput {α : Type} : List (Nat × α) → Nat → α → List (Nat × α)
  | [], x, v => [(x, v)]
  | (y, u) :: r, x, v => bif Nat.beq x y then (x, v) :: r else (y, u) :: aput r x v

structure St where
  n : Nat
  m : Nat
  t : List (Nat × AV)
  h : List (Nat × AObj)
  nx : Nat

abbrev Out := AV × List AObj
abbrev VCall := FuncId → List AV → List AObj → (AV → List AObj → Option Out) → Option Out
inductive Vx where
  | normal
  | exit (id : Nat)
  | ret
abbrev Kont := Vx → St → Option Out
structure Ctx where
  tt : Nat → Option TD
  /-- types whose values are compared cell by cell -/
  eqs : Nat → Bool
  call : VCall
  fuel : Nat
  /-- blocks that are told by a summary, by their numbers -/
  blk : Nat → Option (St → Option (Kont → Option Out)) := fun _ => none
  /-- functions that only read what they are handed, and answer numbers, truths and texts alone -/
  bor : Nat → Bool := fun _ => false
  /-- heads of slices that are handed back become slices of their own -/
  trim : Bool := false
  /-- nil slices that are handed back become slices of their own -/
  phr : Bool := false

structure Upd where
  v : Option AV
  rd : List Nat := []
  wr : List (Nat × AObj) := []
  al : List AObj := []

def opnd (t : List (Nat × AV)) : Operand → Option AV
  | .tmp x => aget t x
  | .const v => bif v.oneCell' then some (.val v) else none
  | .func f => some (.c (.clo f []))
  | .global _ => none

def VV.cells : VV → List CV
  | .c x => [x]
  | .agg l => l

def zeros (l : List Value) : List CV := l.map fun v => .pv (.val v)
def isAgg : TK → Bool
  | .strct _ | .arr _ _ => true
  | _ => false
/-- cells as a value of this kind -/
def pack (k : TK) (l : List CV) : Option VV :=
  bif isAgg k then some (.agg l) else match l with
    | [x] => some (.c x)
    | _ => none
def cut (l : List CV) (off n : Nat) : Option (List CV) :=
  let r := (l.drop off).take n
  bif Nat.beq r.length n then some r else none
def splice (l : List CV) (off : Nat) (xs : List CV) : Option (List CV) :=
  bif Nat.ble (off + xs.length) l.length then some (l.take off ++ xs ++ l.drop (off + xs.length)) else none
/-- the cells off, off+1, .. (n of them) of an element -/
def pcells (f : Nat → PV) (off : Nat) : Nat → List CV
  | 0 => []
  | n + 1 => .pv (f off) :: pcells f (off + 1) n

def numOf : PV → Int
  | .val (.int _ n) => n
  | _ => 0
def boolOf : PV → Bool
  | .val (.bool b) => b
  | _ => false
def textOf : PV → ByteArray
  | .val (.string b) => b
  | _ => ⟨#[]⟩
def nlOf : PV → Bool
  | .sl b _ _ _ _ => b
  | _ => true
def lenOf : PV → Nat
  | .sl _ _ _ n _ => n
  | _ => 0
def fnOf : PV → Nat → Nat → PV
  | .sl _ _ _ _ f => f
  | _ => fun _ _ => .val undef
def kTail : CK → CK
  | .nil => .nil
  | .any r | .int _ r | .bool r | .str r | .sl _ _ r => r
def kDrop (k : CK) : Nat → CK
  | 0 => k
  | c + 1 => kTail (kDrop k c)
/-- does the first kind speak true of this cell? -/
def ckOk : CK → PV → Prop
  | .int k _, p => ∃ m, p = .val (.int k m)
  | .bool _, p => ∃ m, p = .val (.bool m)
  | .str _, p => ∃ m, p = .val (.string m)
  | .sl a e _, p => p = .val (.slice none 0 0) ∨ ∃ b n f, p = .sl b a e n f
  | _, _ => True
/-- a cell, told as its kind tells it -/
def ckNorm : CK → PV → PV
  | .int k _, p => .val (.int k (numOf p))
  | .bool _, p => .val (.bool (boolOf p))
  | .str _, p => .val (.string (textOf p))
  | .sl a e _, p => .sl (nlOf p) a e (lenOf p) (fnOf p)
  | _, p => p
def elemF (k : CK) (g : Nat → PV) : Nat → PV := fun c => ckNorm (kDrop k c) (g c)
/-- what is known of a row -/
def RowK (k : CK) (n : Nat) (f : Nat → Nat → PV) : Prop := ∀ j, j < n → ∀ c, ckOk (kDrop k c) (f j c)
def ckEq : CK → CK → Bool
  | .nil, .nil => true
  | .any r, .any r' => ckEq r r'
  | .int k r, .int k' r' => k == k' && ckEq r r'
  | .bool r, .bool r' => ckEq r r'
  | .str r, .str r' => ckEq r r'
  | .sl a e r, .sl a' e' r' => ckEq a a' && Nat.beq e e' && ckEq r r'
  | _, _ => false
theorem ckEq_eq : ∀ {x y : CK}, ckEq x y = true → x = y := by
  intro x
  induction x with
  | nil => intro y h; cases y <;> simp_all [ckEq]
  | any r ih => intro y h; cases y <;> simp only [ckEq, Bool.false_eq_true] at h; rw [ih h]
  | int k r ih => intro y h; cases y <;> simp only [ckEq, Bool.false_eq_true, Bool.and_eq_true] at h; rw [ih h.2, eq_of_beq h.1]
  | bool r ih => intro y h; cases y <;> simp only [ckEq, Bool.false_eq_true] at h; rw [ih h]
  | str r ih => intro y h; cases y <;> simp only [ckEq, Bool.false_eq_true] at h; rw [ih h]
  | sl a e r iha ih => intro y h; cases y <;> simp only [ckEq, Bool.false_eq_true, Bool.and_eq_true] at h; rw [ih h.2, iha h.1.1, Nat.eq_of_beq_eq_true h.1.2]
def fits : CK → PV → Bool
  | .int k _, .val (.int j _) => k == j
  | .bool _, .val (.bool _) => true
  | .str _, .val (.string _) => true
  | .sl _ _ _, .val (.slice none 0 0) => true
  | .sl a e _, .sl _ a' e' _ _ => ckEq a a' && Nat.beq e e'
  | .nil, _ => true
  | .any _, _ => true
  | _, _ => false
theorem fits_ok {k : CK} {p : PV} (h : fits k p = true) : ckOk k p := by
  unfold fits at h
  split at h
  · rw [eq_of_beq h]; exact ⟨_, rfl⟩
  · exact ⟨_, rfl⟩
  · exact ⟨_, rfl⟩
  · exact .inl rfl
  · rw [Bool.and_eq_true] at h; rw [ckEq_eq h.1, Nat.eq_of_beq_eq_true h.2]; exact .inr ⟨_, _, _, rfl⟩
  · trivial
  · trivial
  · cases h
def ckOf (r : CK) : PV → CK
  | .val (.int k _) => .int k r
  | .val (.bool _) => .bool r
  | .val (.string _) => .str r
  | .sl _ a e _ _ => .sl a e r
  | _ => .any r
def kOfL : Nat → List PV → CK
  | 0, _ => .nil
  | _, [] => .nil
  | n + 1, p :: r => ckOf (kOfL n r) p
theorem kDrop_succ (k : CK) (c : Nat) : kDrop k (c + 1) = kDrop (kTail k) c := by
  induction c with
  | zero => rfl
  | succ c ih => show kTail (kDrop k (c + 1)) = kTail (kDrop (kTail k) c); rw [ih]
theorem kDrop_nil (c : Nat) : kDrop .nil c = .nil := by
  induction c with
  | zero => rfl
  | succ c ih => show kTail (kDrop .nil c) = _; rw [ih]; rfl
theorem kTail_ckOf (r : CK) (p : PV) : kTail (ckOf r p) = r := by
  unfold ckOf
  split <;> rfl
theorem kOfL_drop : ∀ (n : Nat) (l : List PV) (c : Nat), n ≤ c → kDrop (kOfL n l) c = .nil
  | 0, l, c, _ => by simp only [kOfL]; exact kDrop_nil c
  | n + 1, [], c, _ => by simp only [kOfL]; exact kDrop_nil c
  | n + 1, p :: r, 0, h => absurd h (by omega)
  | n + 1, p :: r, c + 1, h => by rw [kDrop_succ]; simp only [kOfL, kTail_ckOf]; exact kOfL_drop n r c (by omega)
def fitFrom (k : CK) (esz : Nat) : Nat → List PV → Bool
  | _, [] => true
  | c, p :: r => fits (kDrop k c) p && fitFrom k esz (bif Nat.beq (c + 1) esz then 0 else c + 1) r
theorem fitFrom_ok {k : CK} {esz : Nat} (he : 0 < esz) : ∀ {l : List PV} {c i0 : Nat}, c = i0 % esz → fitFrom k esz c l = true → ∀ i p, l[i]? = some p → ckOk (kDrop k ((i0 + i) % esz)) p
  | [], c, i0, _, _, i, p, hp => by simp at hp
  | q :: r, c, i0, hc, h, i, p, hp => by
    simp only [fitFrom, Bool.and_eq_true] at h
    cases i with
    | zero =>
      simp at hp
      subst hp
      rw [Nat.add_zero, ← hc]
      exact fits_ok h.1
    | succ i =>
      have hlt : i0 % esz < esz := Nat.mod_lt _ he
      have := fitFrom_ok he (l := r) (i0 := i0 + 1) (by
        rw [Nat.add_mod]
        cases hb : Nat.beq (c + 1) esz with
        | true =>
          have hb := Nat.eq_of_beq_eq_true hb
          simp only [cond_true]
          rw [← hc]
          by_cases h1 : esz = 1
          · subst h1; simp [Nat.mod_one]
          · rw [Nat.mod_eq_of_lt (show 1 < esz by omega), hb, Nat.mod_self]
        | false =>
          have hb : ¬ c + 1 = esz := fun e => by rw [e, Nat.beq_refl] at hb; cases hb
          simp only [cond_false]
          rw [← hc]
          rw [Nat.mod_eq_of_lt (show 1 < esz by omega), Nat.mod_eq_of_lt (by omega)]) h.2 i p (by simpa using hp)
      rw [show i0 + (i + 1) = i0 + 1 + i by omega]
      exact this
def kindsOf (esz : Nat) (l : List PV) : CK := bif fitFrom (kOfL esz l) esz 0 l then kOfL esz l else .nil
theorem kindsOf_ok {esz : Nat} {l : List PV} {i c : Nat} {p : PV} (hp : l[i]? = some p) (hc : c < esz → c = i % esz) : ckOk (kDrop (kindsOf esz l) c) p := by
  unfold kindsOf
  cases hf : fitFrom (kOfL esz l) esz 0 l with
  | false => rw [cond_false, kDrop_nil]; trivial
  | true =>
    rw [cond_true]
    by_cases h : c < esz
    · have := fitFrom_ok (k := kOfL esz l) (by omega) (i0 := 0) (by simp) hf i p hp
      rw [Nat.zero_add] at this
      rw [hc h]
      exact this
    · rw [kOfL_drop _ _ _ (by omega)]; trivial
theorem kindsOf_out {esz : Nat} {l : List PV} {c : Nat} (hc : esz ≤ c) (p : PV) : ckOk (kDrop (kindsOf esz l) c) p := by
  unfold kindsOf
  cases hf : fitFrom (kOfL esz l) esz 0 l with
  | false => rw [cond_false, kDrop_nil]; trivial
  | true => rw [cond_true, kOfL_drop _ _ _ hc]; trivial
def fitsAt : CK → List PV → Bool
  | _, [] => true
  | k, p :: r => fits k p && fitsAt (kTail k) r
theorem fitsAt_ok : ∀ {k : CK} {l : List PV} {i : Nat} {p : PV}, fitsAt k l = true → l[i]? = some p → ckOk (kDrop k i) p
  | k, [], i, p, _, hp => by simp at hp
  | k, q :: r, 0, p, h, hp => by
    simp only [fitsAt, Bool.and_eq_true] at h
    simp at hp
    subst hp
    exact fits_ok h.1
  | k, q :: r, i + 1, p, h, hp => by
    simp only [fitsAt, Bool.and_eq_true] at h
    rw [kDrop_succ]
    exact fitsAt_ok h.2 (by simpa using hp)
theorem kDrop_add (k : CK) (a b : Nat) : kDrop (kDrop k a) b = kDrop k (a + b) := by
  induction b with
  | zero => rfl
  | succ b ih => show kTail (kDrop (kDrop k a) b) = kTail (kDrop k (a + b)); rw [ih]
def isU8 : CK → Bool
  | .int .u8 _ => true
  | _ => false
theorem isU8_ok {k : CK} {p : PV} (h : isU8 k = true) (hp : ckOk k p) : ∃ m, p = .val (.int .u8 m) := by
  unfold isU8 at h
  split at h
  · exact hp
  · cases h
def wrapN (k : IntKind) (n : Int) : Int := k.wrap n
def bt (s : ByteArray) (i : Int) : Int := if h : i.toNat < s.size then ((s[i.toNat]'h).toNat : Int) else 0
def ubyte : PV → UInt8
  | .val (.int _ n) => UInt8.ofNat n.toNat
  | _ => 0
def strOf (n : Nat) (f : Nat → Nat → PV) : ByteArray := ⟨((List.range n).map fun i => ubyte (f i 0)).toArray⟩

/-! ### maps -/
def pvIs : Value → PV → Bool
  | .int z _, .val (.int k _) => z == k
  | .bool _, .val (.bool _) => true
  | .string _, .val (.string _) => true
  | _, _ => false
def keyIs : List Value → List PV → Bool
  | [], [] => true
  | z :: zs, p :: ps => pvIs z p && keyIs zs ps
  | _, _ => false
def pvEq : PV → PV → Bool
  | .val (.int _ a), .val (.int _ b) => a == b
  | .val (.bool a), .val (.bool b) => a == b
  | .val (.string a), .val (.string b) => a.toList == b.toList
  | _, _ => false
def keyEq : List PV → List PV → Bool
  | [], [] => true
  | x :: xs, y :: ys => pvEq x y && keyEq xs ys
  | _, _ => false
abbrev MapL := List (List PV × List PV)
def mhas (l : MapL) (k : List PV) : Bool := match l with | [] => false | e :: r => keyEq k e.1 || mhas r k
def mget (l : MapL) (k : List PV) : List PV := match l with | [] => [] | e :: r => bif keyEq k e.1 then e.2 else mget r k
def mput (l : MapL) (k v : List PV) : MapL := match l with | [] => [(k, v)] | e :: r => bif keyEq k e.1 then (k, v) :: r else e :: mput r k v
def mcell (l : MapL) (k : List PV) (c : Nat) : PV := (mget l k).getD c (.val undef)
def toPvs : List CV → Option (List PV)
  | [] => some []
  | .pv p :: r => match toPvs r with | some l => some (p :: l) | none => none
  | _ :: _ => none

/-- a slice's number of elements and its contents, if they are plain; the ids that are read -/
def readSl (h : List (Nat × AObj)) (esz : Nat) : CV → Option (CK × Nat × (Nat → Nat → PV) × List Nat)
  | .pv (.val (.slice none 0 0)) => some (.nil, 0, fun _ _ => .val undef, [])
  | .pv (.sl _ k e n f) => bif Nat.beq e esz then some (k, n, f, []) else none
  | .own id => match aget h id with
    | some (.parr _ _ k e n f) => bif Nat.beq e esz then some (k, n, f, [id]) else none
    | _ => none
  | .pre id m => match aget h id with
    | some (.parr _ _ k e _ f) => bif Nat.beq e esz then some (k, m, f, [id]) else none
    | _ => none
  | .sub id lo n => match aget h id with
    | some (.parr _ _ k e _ f) => bif Nat.beq e esz then some (k, n, fun j c => f (lo + j) c, [id]) else none
    | _ => none
  | _ => none
/-- a slice's length -/
def slLen (h : List (Nat × AObj)) : CV → Option (Nat × List Nat)
  | .pv (.val (.slice none 0 0)) => some (0, [])
  | .pv (.sl _ _ _ n _) => some (n, [])
  | .own id => match aget h id with
    | some (.parr _ _ _ _ n _) => some (n, [id])
    | _ => none
  | .pre id m => match aget h id with
    | some (.parr ..) => some (m, [id])
    | _ => none
  | .sub id _ n => match aget h id with
    | some (.parr ..) => some (n, [id])
    | _ => none
  | .csl _ _ n _ => some (n, [])
  | _ => none
end Go.Ve

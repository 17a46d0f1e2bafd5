/- The evaluator ("VE"): definitions alone. A small abstract interpreter over the program's code: an abstract heap of numbered objects, read-only slices as functions, owned arrays; in continuation-passing style. -/
import Derived.WalkKit
import Derived.KernelRfl
namespace Go.Ve

/-- What never changes: a plain value, or a slice that nobody writes any more (cells of an element, elements, contents). -/
inductive PV where
  | val (v : Value)
  | sl (k : Option IntKind) (esz n : Nat) (f : Nat → Nat → PV)

/-- What one cell holds. -/
inductive CV where
  | pv (p : PV)
  | dead
  | ptr (id off : Nat)
  | ept (id i off : Nat)
  | pel (esz : Nat) (f : Nat → PV) (off : Nat)
  | own (id : Nat)
  | sub (id lo n : Nat)
  | csl (id lo n esz : Nat)
  | mp (id : Nat)
  | clo (f : FuncId) (caps : List (Nat × Nat))

inductive VV where
  | c (x : CV)
  | agg (l : List CV)

inductive AV where
  | v (x : VV)
  | tup (l : List VV)

inductive AObj where
  | dead
  | cells (ro : Bool) (l : List CV)
  | parr (ro : Bool) (k : Option IntKind) (esz n : Nat) (f : Nat → Nat → PV)

abbrev AV.c (x : CV) : AV := .v (.c x)
abbrev AV.val (v : Value) : AV := .v (.c (.pv (.val v)))
abbrev AV.i (n : Int) : AV := .val (.int .i64 n)
abbrev AV.b (b : Bool) : AV := .val (.bool b)

/-! ### types -/
inductive TK where
  | int (k : IntKind) | bool | str
  | strct (fs : List (Nat × Nat))
  | arr (n e : Nat) | slc (e : Nat) | ptr (e : Nat) | map (k v : Nat) | oth
structure TD where
  k : TK
  size : Nat
  bytes : Nat
  zero : List Value

/-! ### assoc lists -/
def aget {α : Type} : List (Nat × α) → Nat → Option α
  | [], _ => none
  | (y, v) :: r, x => bif Nat.beq x y then some v else aget r x
def aput {α : Type} : List (Nat × α) → Nat → α → List (Nat × α)
  | [], x, v => [(x, v)]
  | (y, u) :: r, x, v => bif Nat.beq x y then (x, v) :: r else (y, u) :: aput r x v

structure St where
  n : Nat
  m : Nat
  t : List (Nat × AV)
  h : List (Nat × AObj)
  nx : Nat

abbrev Out := AV × List AObj
abbrev VCall := FuncId → List AV → List AObj → (AV → List AObj → Option Out) → Option Out
structure Ctx where
  tt : Nat → Option TD
  /-- types whose values are compared cell by cell -/
  eqs : Nat → Bool
  call : VCall
  fuel : Nat

structure Upd where
  v : Option AV
  rd : List Nat := []
  wr : List (Nat × AObj) := []
  al : List AObj := []

def opnd (t : List (Nat × AV)) : Operand → Option AV
  | .tmp x => aget t x
  | .const v => bif v.oneCell' then some (.val v) else none
  | .func f => some (.c (.clo f []))
  | .global _ => none

def VV.cells : VV → List CV
  | .c x => [x]
  | .agg l => l

def zeros (l : List Value) : List CV := l.map fun v => .pv (.val v)
def isAgg : TK → Bool
  | .strct _ | .arr _ _ => true
  | _ => false
/-- cells as a value of this kind -/
def pack (k : TK) (l : List CV) : Option VV :=
  bif isAgg k then some (.agg l) else match l with
    | [x] => some (.c x)
    | _ => none
def cut (l : List CV) (off n : Nat) : Option (List CV) :=
  let r := (l.drop off).take n
  bif Nat.beq r.length n then some r else none
def splice (l : List CV) (off : Nat) (xs : List CV) : Option (List CV) :=
  bif Nat.ble (off + xs.length) l.length then some (l.take off ++ xs ++ l.drop (off + xs.length)) else none
/-- the cells off, off+1, .. (n of them) of an element -/
def pcells (f : Nat → PV) (off : Nat) : Nat → List CV
  | 0 => []
  | n + 1 => .pv (f off) :: pcells f (off + 1) n

def wrapN (k : IntKind) (n : Int) : Int := k.wrap n
def bt (s : ByteArray) (i : Int) : Int := if h : i.toNat < s.size then ((s[i.toNat]'h).toNat : Int) else 0
def ubyte : PV → UInt8
  | .val (.int _ n) => UInt8.ofNat n.toNat
  | _ => 0
def strOf (n : Nat) (f : Nat → Nat → PV) : ByteArray := ⟨((List.range n).map fun i => ubyte (f i 0)).toArray⟩

/-- a slice's number of elements and its contents, if they are plain; the ids that are read -/
def readSl (h : List (Nat × AObj)) (esz : Nat) : CV → Option (Option IntKind × Nat × (Nat → Nat → PV) × List Nat)
  | .pv (.val (.slice none 0 0)) => some (none, 0, fun _ _ => .val undef, [])
  | .pv (.sl k e n f) => bif Nat.beq e esz then some (k, n, f, []) else none
  | .own id => match aget h id with
    | some (.parr _ k e n f) => bif Nat.beq e esz then some (k, n, f, [id]) else none
    | _ => none
  | .sub id lo n => match aget h id with
    | some (.parr _ k e _ f) => bif Nat.beq e esz then some (k, n, fun j c => f (lo + j) c, [id]) else none
    | _ => none
  | _ => none
/-- a slice's length -/
def slLen (h : List (Nat × AObj)) : CV → Option (Nat × List Nat)
  | .pv (.val (.slice none 0 0)) => some (0, [])
  | .pv (.sl _ _ n _) => some (n, [])
  | .own id => match aget h id with
    | some (.parr _ _ _ n _) => some (n, [id])
    | _ => none
  | .sub id _ n => match aget h id with
    | some (.parr ..) => some (n, [id])
    | _ => none
  | .csl _ _ n _ => some (n, [])
  | _ => none
end Go.Ve

/- The evaluator ("VE"): one operation; regions, code, functions. -/
import Derived.Test.YtijabmpcicddbaaVe1
namespace Go.Ve

def live : AObj → Bool | .dead => false | _ => true
inductive Stp where
  | fail
  | done (u : Upd)
  | test (b : Bool) (y n : Stp)
def Stp.run (k : Upd → Option Out) : Stp → Option Out
  | .fail => none
  | .done u => k u
  | .test b y n => bif b then y.run k else n.run k

abbrev Stp.val (v : Value) : Stp := .done { v := some (.val v) }
abbrev Stp.c (x : CV) : Stp := .done { v := some (.c x) }
def Stp.of {α : Type} (x : Option α) (f : α → Stp) : Stp := match x with | some a => f a | none => .fail

def shlI (k : IntKind) (x y : Int) : Int := k.wrap (x * 2 ^ (min y.toNat k.bits))
def shrI (k : IntKind) (x y : Int) : Int := x.fdiv (2 ^ (min y.toNat k.bits))

def evInt (op : BinOp) (k : IntKind) (x y : Int) : Stp :=
  match op with
  | .add => .val (.int k (k.wrap (x + y)))
  | .sub => .val (.int k (k.wrap (x - y)))
  | .mul => .val (.int k (k.wrap (x * y)))
  | .quo => .test (y == 0) .fail (.val (.int k (k.wrap (x.tdiv y))))
  | .rem => .test (y == 0) .fail (.val (.int k (x.tmod y)))
  | .and => .val (.int k (bits .and k x y))
  | .or => .val (.int k (bits .or k x y))
  | .xor => .val (.int k (bits .xor k x y))
  | .andNot => .val (.int k (bits .andNot k x y))
  | .eql => .val (.bool (x == y))
  | .neq => .val (.bool (x != y))
  | .lss => .val (.bool (decide (x < y)))
  | .leq => .val (.bool (decide (x ≤ y)))
  | .gtr => .val (.bool (decide (x > y)))
  | .geq => .val (.bool (decide (x ≥ y)))
  | .shl | .shr => .fail
def evShift (op : BinOp) (k : IntKind) (x y : Int) : Stp :=
  match op with
  | .shl => .test (decide (y < 0)) .fail (.val (.int k (shlI k x y)))
  | .shr => .test (decide (y < 0)) .fail (.val (.int k (shrI k x y)))
  | _ => .fail
def evStr (op : BinOp) (x y : ByteArray) : Stp :=
  match op with
  | .add => .test (Nat.ble (x.size + y.size) 4611686018427387904) (.val (.string (x ++ y))) .fail
  | .eql => .val (.bool (x.toList == y.toList))
  | .neq => .val (.bool (!(x.toList == y.toList)))
  | .lss => .val (.bool (Op.bytesLess x.toList y.toList))
  | .leq => .val (.bool (Op.bytesLess x.toList y.toList || x.toList == y.toList))
  | .gtr => .val (.bool (!(Op.bytesLess x.toList y.toList || x.toList == y.toList)))
  | .geq => .val (.bool (!Op.bytesLess x.toList y.toList))
  | _ => .fail
/-- one cell of a value that is compared; z: the type's zero there -/
def eqCell : Value → CV → CV → Option Bool
  | .int z _, .pv (.val (.int j a)), .pv (.val (.int k b)) => bif z == j && j == k then some (a == b) else none
  | .bool _, .pv (.val (.bool a)), .pv (.val (.bool b)) => some (a == b)
  | .string _, .pv (.val (.string a)), .pv (.val (.string b)) => some (a.toList == b.toList)
  | _, _, _ => none
def eqCells : List Value → List CV → List CV → Option Bool
  | [], [], [] => some true
  | [z], [x], [y] => eqCell z x y
  | z :: zs, x :: l, y :: r => match eqCell z x y, eqCells zs l r with
    | some a, some b => some (a && b)
    | _, _ => none
  | _, _, _ => none
/-- is a slice (p: a pointer) nil? what is read of the heap for it -/
def isNil (h : List (Nat × AObj)) : Bool → CV → Option (Bool × List Nat)
  | false, .pv (.val (.slice none _ _)) => some (true, [])
  | false, .pv (.sl nl _ _ _ _) => some (nl, [])
  | false, .own id | false, .pre id _ | false, .sub id _ _ => match aget h id with
    | some (.parr _ nl _ _ _ _) => some (nl, [id])
    | _ => none
  | false, .csl id _ _ _ => match aget h id with
    | some (.cells _ _) => some (false, [id])
    | _ => none
  | true, .pv (.val (.pointer none)) => some (true, [])
  | true, .pel .. => some (false, [])
  | true, .ptr id _ | true, .ept id _ _ => match aget h id with
    | some .dead | none => none
    | some _ => some (false, [id])
  | _, _ => none
def evEq (tt : Nat → Option TD) (eqs : Nat → Bool) (h : List (Nat × AObj)) (T : Nat) (x y : VV) : Option (Bool × List Nat) :=
  match tt T with
  | none => none
  | some td => match td.k, x, y with
    | .bool, .c (.pv (.val (.bool a))), .c (.pv (.val (.bool b))) => some (a == b, [])
    | .slc _, .c x, .c y => match isNil h false x, isNil h false y with
      | some (b, r), some (b', r') => bif b' then some (b, r ++ r') else bif b then some (false, r ++ r') else none
      | _, _ => none
    | .ptr _, .c x, .c y => match isNil h true x, isNil h true y with
      | some (b, r), some (b', r') => bif b' then some (b, r ++ r') else bif b then some (false, r ++ r') else none
      | _, _ => none
    | .strct _, .agg l, .agg r | .arr _ _, .agg l, .agg r => bif eqs T then (eqCells td.zero l r).map fun b => (b, []) else none
    | _, _, _ => none
def evBin (tt : Nat → Option TD) (eqs : Nat → Bool) (h : List (Nat × AObj)) (T : Nat) (op : BinOp) (x y : VV) : Stp :=
  match x, y with
  | .c (.pv (.val (.int k a))), .c (.pv (.val (.int k' b))) =>
    match op with
    | .shl => evShift .shl k a b
    | .shr => evShift .shr k a b
    | op => bif k == k' then evInt op k a b else .fail
  | .c (.pv (.val (.string a))), .c (.pv (.val (.string b))) => evStr op a b
  | x, y => match op with
    | .eql => Stp.of (evEq tt eqs h T x y) fun b => .done { v := some (.val (.bool b.1)), rd := b.2 }
    | .neq => Stp.of (evEq tt eqs h T x y) fun b => .done { v := some (.val (.bool !b.1)), rd := b.2 }
    | _ => .fail

def evUn (op : UnOp) (x : VV) : Stp :=
  match op, x with
  | .neg, .c (.pv (.val (.int k n))) => .val (.int k (k.wrap (0 - n)))
  | .xor, .c (.pv (.val (.int k n))) => .val (.int k (bits .xor k (if k.signed then -1 else k.max) n))
  | .not, .c (.pv (.val (.bool b))) => .val (.bool !b)
  | _, _ => .fail

def joinK (k k' : CK) (m : Nat) : CK := bif ckEq k k' then k' else match m with | 0 => k | _ => .nil
def pvOf : CV → PV | .pv p => p | _ => .val undef
/-- A cell's content as something that never changes: who holds the row gives it up. -/
def pvAt (l : List CV) (i : Nat) : PV := match l[i]? with | some (.pv p) => p | _ => .val undef
def isPv : CV → Bool | .pv _ => true | _ => false
def frz (h : List (Nat × AObj)) : CV → Option (PV × List Nat × List (Nat × AObj))
  | .pv p => some (p, [], [])
  | .own id => match aget h id with
    | some (.parr _ nl k e n f) => some (.sl nl k e n f, [id], [(id, .parr true nl k e n f)])
    | _ => none
  | .pre id m => match aget h id with
    | some (.parr _ nl k e n f) => some (.sl nl k e m f, [id], [(id, .parr true nl k e n f)])
    | _ => none
  | .sub id lo n => match aget h id with
    | some (.parr _ nl k e m f) => some (.sl nl k e n (fun j c => f (lo + j) c), [id], [(id, .parr true nl k e m f)])
    | _ => none
  | .csl id base n esz => match aget h id with
    | some (.cells _ l) => bif l.all isPv then some (.sl false (kindsOf esz (((l.map pvOf).drop base).take (n * esz))) esz n (fun j c => pvAt l (base + j * esz + c)), [id], [(id, .cells true l)]) else none
    | _ => none
  | .dead | .ptr _ _ | .ept _ _ _ | .pel _ _ _ | .mp _ | .clo _ _ => none
def frzAll (h : List (Nat × AObj)) : List CV → Option (List PV × List Nat × List (Nat × AObj))
  | [] => some ([], [], [])
  | x :: l => match frz h x, frzAll h l with
    | some (p, r, w), some (ps, rs, ws) => some (p :: ps, r ++ rs, w ++ ws)
    | _, _ => none
def rowOf (esz : Nat) (l : List PV) : Nat → Nat → PV := fun j c => l.getD (j * esz + c) (.val undef)
def setf (f : Nat → Nat → PV) (i off : Nat) (xs : List PV) : Nat → Nat → PV :=
  fun j c => bif Nat.beq j i && (Nat.ble off c && Nat.blt c (off + xs.length)) then xs.getD (c - off) (.val undef) else f j c

def fillIn (place : Nat → Option (Nat × Nat)) (cells : List CV) : List (Nat × VV) → Option (List CV)
  | [] => some cells
  | (i, v) :: rest => match place i with
    | none => none
    | some (off, size) => bif Nat.beq v.cells.length size then
        match splice cells off v.cells with
        | some cells' => fillIn place cells' rest
        | none => none
      else none
def rep (n : Nat) (l : List CV) : List CV := match n with | 0 => [] | n + 1 => l ++ rep n l

def asV : AV → Option VV | .v x => some x | .tup _ => none
def opv (t : List (Nat × AV)) (x : Operand) : Option VV := (opnd t x).bind asV
def parts (t : List (Nat × AV)) : List (Nat × Operand) → Option (List (Nat × VV))
  | [] => some []
  | (i, x) :: r => match opv t x, parts t r with
    | some v, some vs => some ((i, v) :: vs)
    | _, _ => none
def opvs (t : List (Nat × AV)) : List Operand → Option (List AV)
  | [] => some []
  | x :: r => match opnd t x, opvs t r with
    | some v, some vs => some (v :: vs)
    | _, _ => none

/-- an empty row is told by its type -/
def kindsR (td : TD) : List PV → CK
  | [] => kindsOf td.size (td.zero.map .val)
  | l => kindsOf td.size l
def evBuildSlice (tt : Nat → Option TD) (t : List (Nat × AV)) (h : List (Nat × AObj)) (nx T len : Nat) (ps : List (Nat × Operand)) : Stp :=
  match tt T with
  | some { k := .slc e, .. } => match tt e with
    | some td =>
      bif Nat.ble (len * td.size) 65536 then
        match parts t ps with
        | some vs => match fillIn (fun i => some (i * td.size, td.size)) (rep len (zeros td.zero)) vs with
          | some cells => match frzAll h cells with
            | some (l, r, w) => .done { v := some (.c (.own nx)), rd := r, wr := w, al := [.parr false false (kindsR td l) td.size len (rowOf td.size l)] }
            | none => .done { v := some (.c (.csl nx 0 len td.size)), al := [.cells false cells] }
          | none => .fail
        | none => .fail
      else .fail
    | none => .fail
  | _ => .fail

def evLoad (tt : Nat → Option TD) (h : List (Nat × AObj)) (T : Nat) : CV → Stp
  | .ptr id off => match aget h id, tt T with
    | some (.cells _ l), some td => Stp.of ((cut l off td.size).bind (pack td.k)) fun v => .done { v := some (.v v), rd := [id] }
    | _, _ => .fail
  | .ept id i off => match aget h id, tt T with
    | some (.parr _ _ k e _ f), some td => bif Nat.ble (off + td.size) e then Stp.of (pack td.k (pcells (elemF k (f i)) off td.size)) fun v => .done { v := some (.v v), rd := [id] } else .fail
    | _, _ => .fail
  | .pel e f off => match tt T with
    | some td => bif Nat.ble (off + td.size) e then Stp.of (pack td.k (pcells f off td.size)) fun v => .done { v := some (.v v) } else .fail
    | none => .fail
  | _ => .fail
def evStore (tt : Nat → Option TD) (h : List (Nat × AObj)) (T : Nat) (p : CV) (x : VV) : Stp :=
  match tt T with
  | some td => bif Nat.beq x.cells.length td.size then
      match p with
      | .ptr id off => match aget h id with
        | some (.cells false l) => Stp.of (splice l off x.cells) fun l' => .done { v := none, rd := [id], wr := [(id, .cells false l')] }
        | _ => .fail
      | .ept id i off => match aget h id, frzAll h x.cells with
        | some (.parr false nl k e n f), some (xs, r, w) =>
          bif Nat.ble (off + td.size) e && !(r.contains id) then .done { v := none, rd := id :: r, wr := w ++ [(id, .parr false nl (bif fitsAt (kDrop k off) xs then k else .nil) e n (setf f i off xs))] } else .fail
        | _, _ => .fail
      | _ => .fail
    else .fail
  | none => .fail

def evFieldAddr (tt : Nat → Option TD) (h : List (Nat × AObj)) (T : Nat) (i : Nat) : CV → Stp
  | .ptr id off => match tt T with
    | some { k := .strct fs, .. } => Stp.of fs[i]? fun f => bif Nat.beq f.2 0 then .fail else .c (.ptr id (off + f.1))
    | _ => .fail
  | .ept id j off => match tt T with
    | some { k := .strct fs, .. } => Stp.of fs[i]? fun f => bif Nat.beq f.2 0 then .fail else match aget h id with
      | some o => bif live o then .done { v := some (.c (.ept id j (off + f.1))), rd := [id] } else .fail
      | none => .fail
    | _ => .fail
  | .pel e g off => match tt T with
    | some { k := .strct fs, .. } => Stp.of fs[i]? fun f => bif Nat.beq f.2 0 then .fail else .c (.pel e g (off + f.1))
    | _ => .fail
  | _ => .fail
def inb (i : Int) (n : Nat) : Bool := decide (0 ≤ i) && decide (i < (n : Int))
def evIndexAddr (tt : Nat → Option TD) (h : List (Nat × AObj)) (T : Nat) (x : CV) (i : Int) : Stp :=
  match tt T with
  | some { k := .arr n e, .. } => match x, tt e with
    | .ptr id off, some td => .test (inb i n) (.c (.ptr id (off + i.toNat * td.size))) .fail
    | _, _ => .fail
  | some { k := .slc e, .. } => match tt e with
    | some td => match x with
      | .own id => match aget h id with
        | some (.parr _ _ _ s n _) => bif Nat.beq s td.size then .test (inb i n) (.done { v := some (.c (.ept id i.toNat 0)), rd := [id] }) .fail else .fail
        | _ => .fail
      | .pre id m => match aget h id with
        | some (.parr _ _ _ s _ _) => bif Nat.beq s td.size then .test (inb i m) (.done { v := some (.c (.ept id i.toNat 0)), rd := [id] }) .fail else .fail
        | _ => .fail
      | .sub id lo n => match aget h id with
        | some (.parr _ _ _ s _ _) => bif Nat.beq s td.size then .test (inb i n) (.done { v := some (.c (.ept id (lo + i.toNat) 0)), rd := [id] }) .fail else .fail
        | _ => .fail
      | .csl id base n s => bif Nat.beq s td.size then .test (inb i n) (.c (.ptr id (base + i.toNat * s))) .fail else .fail
      | .pv (.sl _ k s n f) => bif Nat.beq s td.size then .test (inb i n) (.c (.pel s (elemF k (f i.toNat)) 0)) .fail else .fail
      | _ => .fail
    | none => .fail
  | _ => .fail
def evIndex (tt : Nat → Option TD) (T : Nat) (x : VV) (i : Int) : Stp :=
  match x with
  | .c (.pv (.val (.string s))) => .test (inb i s.size) (.val (.int .u8 (bt s i))) .fail
  | .agg l => match tt T with
    | some { k := .arr n e, .. } => match tt e with
      | some td => .test (inb i n) (Stp.of ((cut l (i.toNat * td.size) td.size).bind (pack td.k)) fun v => .done { v := some (.v v) }) .fail
      | none => .fail
    | _ => .fail
  | _ => .fail
/-- what is indexed is a string only where its type is -/
def strOk (tt : Nat → Option TD) (T : Nat) : VV → Bool
  | .c (.pv (.val (.string _))) => match tt T with
    | some td => match td.k with | .str => true | _ => false
    | none => false
  | _ => true
def evField (tt : Nat → Option TD) (T : Nat) (x : VV) (i : Nat) : Stp :=
  match x, tt T with
  | .agg l, some { k := .strct fs, .. } => Stp.of fs[i]? fun f => match tt T with
    | _ => Stp.of (cut l f.1 f.2) fun c => bif Nat.beq f.2 1 then Stp.of (pack .bool c) fun v => .done { v := some (.v v) } else .fail
  | _, _ => .fail

def optInt (t : List (Nat × AV)) : Option Operand → Option (Option Int)
  | none => some none
  | some x => match opnd t x with
    | some (.v (.c (.pv (.val (.int _ n))))) => some (some n)
    | _ => none
/-- the bounds of a cut: low, high; all within n -/
def goSlice (lo hi : Option Int) (n : Nat) (f : Nat → Nat → Stp) : Stp :=
  .test (inb (hi.getD (n : Int)) (n + 1)) (.test (decide (0 ≤ lo.getD 0) && decide (lo.getD 0 ≤ hi.getD (n : Int))) (f (lo.getD 0).toNat ((hi.getD (n : Int)).toNat - (lo.getD 0).toNat)) .fail) .fail
/-- likewise, where there is room for N -/
def goSliceC (lo hi : Option Int) (n N : Nat) (f : Nat → Nat → Stp) : Stp :=
  .test (inb (hi.getD (n : Int)) (N + 1)) (.test (decide (0 ≤ lo.getD 0) && decide (lo.getD 0 ≤ hi.getD (n : Int))) (f (lo.getD 0).toNat ((hi.getD (n : Int)).toNat - (lo.getD 0).toNat)) .fail) .fail
def evSliceSl (h : List (Nat × AObj)) (size : Nat) (lo hi : Option Int) : CV → Stp
  | .own id => match aget h id with
    | some (.parr _ _ _ s n _) => bif Nat.beq s size then goSlice lo hi n fun l m => .done { v := some (.c (match lo with | none => .pre id m | some _ => .sub id l m)), rd := [id] } else .fail
    | _ => .fail
  | .pre id n => match aget h id with
    | some (.parr _ _ _ s N _) => bif Nat.beq s size then goSliceC lo hi n N fun l m => .done { v := some (.c (match lo with | none => .pre id m | some _ => .sub id l m)), rd := [id] } else .fail
    | _ => .fail
  | .sub id b n => match aget h id with
    | some (.parr _ _ _ s _ _) => bif Nat.beq s size then goSlice lo hi n fun l m => .done { v := some (.c (.sub id (b + l) m)), rd := [id] } else .fail
    | _ => .fail
  | .csl id b n s => bif Nat.beq s size then goSlice lo hi n fun l m => .c (.csl id (b + l * s) m s) else .fail
  | .pv (.sl nl k s n f) => bif Nat.beq s size then goSlice lo hi n fun l m => .c (.pv (.sl nl k s m fun j c => f (l + j) c)) else .fail
  | .pv (.val (.slice none 0 0)) => goSlice lo hi 0 fun _ _ => .val (.slice none 0 0)
  | _ => .fail
/-- with three indices: a part of what is owned -/
def evSlice3 (h : List (Nat × AObj)) (size : Nat) (lo hi : Option Int) (c : Int) : CV → Stp
  | .own id => match aget h id, lo, hi with
    | some (.parr _ _ _ s n _), some l, some r => bif Nat.beq s size then
        .test (inb c (n + 1) && (inb r (c.toNat + 1) && (decide (0 ≤ l) && decide (l ≤ r)))) (.done { v := some (.c (.sub id l.toNat (r.toNat - l.toNat))), rd := [id] }) .fail else .fail
    | _, _, _ => .fail
  | _ => .fail
def evSlice (tt : Nat → Option TD) (h : List (Nat × AObj)) (T : Nat) (x : CV) (lo hi mx : Option Int) : Stp :=
  match mx, tt T with
  | none, some td => match td.k with
    | .str => match x with
      | .pv (.val (.string s)) => goSlice lo hi s.size fun l n => .val (.string (s.extract l (l + n)))
      | _ => .fail
    | .arr n e => match x, tt e with
      | .ptr id off, some ed => match aget h id with
        | some (.cells _ l) => bif Nat.ble (off + n * ed.size) l.length then goSlice lo hi n fun l m => .done { v := some (.c (.csl id (off + l * ed.size) m ed.size)), rd := [id] } else .fail
        | _ => .fail
      | _, _ => .fail
    | .slc e => match tt e with
      | some ed => evSliceSl h ed.size lo hi x
      | none => .fail
    | _ => .fail
  | some c, some td => match td.k with
    | .slc e => match tt e with
      | some ed => evSlice3 h ed.size lo hi c x
      | none => .fail
    | _ => .fail
  | _, _ => .fail

def evConvert (tt : Nat → Option TD) (h : List (Nat × AObj)) (nx S T : Nat) (x : CV) : Stp :=
  match tt S, tt T with
  | some sd, some td => match td.k, x with
    | .int k, .pv (.val (.int _ n)) => .val (.int k (k.wrap n))
    | .str, x => match sd.k with
      | .str => match x with | .pv (.val (.string s)) => .val (.string s) | _ => .fail
      | .slc e => match tt e with
        | some { k := .int .u8, .. } => match readSl h 1 x with
          | some (k, n, f, r) => bif isU8 k then .done { v := some (.val (.string (strOf n f))), rd := r } else .test (Nat.beq n 0) (.done { v := some (.val (.string ⟨#[]⟩)), rd := r }) .fail
          | none => match x with
            | .csl id base n 1 => match aget h id with
              | some (.cells _ l) => bif isU8 (kindsOf 1 (l.map pvOf)) then .done { v := some (.val (.string (strOf n fun j c => pvAt l (base + j + c)))), rd := [id] } else .fail
              | _ => .fail
            | _ => .fail
        | _ => .fail
      | _ => .fail
    | .slc e, .pv (.val (.string s)) => match tt e with
      | some { k := .int .u8, .. } => bif Nat.beq frx 0 then .done { v := some (.c (.own nx)), al := [.parr false false (.int .u8 .nil) 1 s.size (fun j _ => .val (.int .u8 (bt s (j : Int))))] } else .fail
      | _ => .fail
    | .slc e, .own id => match tt e with
      | some { k := .int .u8, .. } => bif Nat.beq S T && Nat.beq frx 0 then match aget h id with
        | some (.parr false false k e' n f) => .done { v := some (.c (.own nx)), rd := [id], wr := [(id, .dead)], al := [.parr false false k e' n f] }
        | _ => .fail
        else .fail
      | _ => .fail
    | _, _ => .fail
  | _, _ => .fail

def evLen (tt : Nat → Option TD) (h : List (Nat × AObj)) (T : Nat) (x : VV) : Stp :=
  match tt T with
  | some td => match td.k, x with
    | .str, .c (.pv (.val (.string s))) => .val (goInt s.size)
    | .arr n _, _ => .val (goInt n)
    | .slc _, .c x => Stp.of (slLen h x) fun p => .done { v := some (.val (goInt p.1)), rd := p.2 }
    | .map _ _, .c (.mp id) => match aget h id with
      | some (.mapo _ _ _ _ _ l) => .done { v := some (.val (goInt l.length)), rd := [id] }
      | _ => .fail
    | _, _ => .fail
  | none => .fail

def catf (n : Nat) (f g : Nat → Nat → PV) : Nat → Nat → PV := fun j c => bif Nat.blt j n then f j c else g (j - n) c
/-- m elements of g from n on -/
def putf (n m : Nat) (f g : Nat → Nat → PV) : Nat → Nat → PV := fun j c => bif Nat.ble n j && Nat.blt j (n + m) then g (j - n) c else f j c
def bound : Nat := 35184372088832
/-- what is appended -/
def appSrc (h : List (Nat × AObj)) (td : TD) (uk : TK) (x : CV) : Option (CK × Nat × (Nat → Nat → PV) × List Nat) :=
  match uk, td.k, x with
  | .str, .int .u8, .pv (.val (.string b)) => bif Nat.beq td.size 1 then some (.int .u8 .nil, b.size, fun j _ => .val (.int .u8 (bt b (j : Int))), []) else none
  | .slc _, _, x => readSl h td.size x
  | _, _, _ => none
/-- what is appended is there: k, m, g, r -/
def evApp (h : List (Nat × AObj)) (nx : Nat) (td : TD) (s : CV) (k : CK) (m : Nat) (g : Nat → Nat → PV) (r : List Nat) : Stp :=
      bif Nat.ble td.bytes 65536 && Nat.ble 1 td.bytes then
          match s with
          | .pv (.val (.slice none 0 0)) =>
            .test (Nat.ble (m * td.bytes) bound) (.done { v := some (.c (.own nx)), rd := r, al := [.parr false (Nat.beq m 0) k td.size m g] }) .fail
          | .own id => match aget h id with
            | some (.parr false nl k' s n f) => bif Nat.beq s td.size then .test (Nat.ble ((n + m) * td.bytes) bound) (.done { v := some (.c (.own nx)), rd := id :: r, wr := [(id, .dead)], al := [.parr false (nl && Nat.beq m 0) (joinK k' k m) td.size (n + m) (catf n f g)] }) .fail else .fail
            | _ => .fail
          | .pre id n => match aget h id with
            | some (.parr false nl k' s N f) => bif Nat.beq s td.size then .test (Nat.ble (n + m) N && Nat.ble ((n + m) * td.bytes) bound)
                (.done { v := some (.c (.pre id (n + m))), rd := id :: r, wr := [(id, .parr false nl (joinK k' k m) td.size N (putf n m f g))] })
                (.test (Nat.ble n N && Nat.ble ((n + m) * td.bytes) bound) (.done { v := some (.c (.own nx)), rd := id :: r, wr := [(id, .dead)], al := [.parr false (nl && Nat.beq m 0) (joinK k' k m) td.size (n + m) (catf n f g)] }) .fail) else .fail
            | _ => .fail
          | _ => .fail
        else .fail
def evAppend (tt : Nat → Option TD) (h : List (Nat × AObj)) (nx T : Nat) (uk : TK) (s x : CV) : Stp :=
  match tt T with
  | some { k := .slc e, .. } => match tt e with
    | some td => match uk, x with
      | .int _, .pv (.val (.int _ l)) => .test (decide (0 ≤ l) && decide (l ≤ 4611686018427387904)) (evApp h nx td s (kindsOf td.size (td.zero.map .val)) l.toNat (fun _ j => .val (td.zero.getD j undef)) []) .fail
      | _, _ => match appSrc h td uk x with
        | some (k, m, g, r) => evApp h nx td s k m g r
        | none => .fail
    | none => .fail
  | _ => .fail

def evMakeSlice (tt : Nat → Option TD) (nx T : Nat) (l c : Int) : Stp :=
  match tt T with
  | some { k := .slc e, .. } => match tt e with
    | some td => bif Nat.ble td.bytes 65536 then
        .test (decide (0 ≤ l) && decide (l ≤ c) && decide (c ≤ 1073741824)) (.done { v := some (.c (.own nx)), al := [.parr false false (kindsOf td.size (td.zero.map .val)) td.size l.toNat (fun _ j => .val (td.zero.getD j undef))] }) .fail
      else .fail
    | none => .fail
  | _ => .fail

def int2 (f : Int → Int → Bool) (x y : AV) : Option AV :=
  match x, y with
  | .v (.c (.pv (.val (.int k a)))), .v (.c (.pv (.val (.int _ b)))) => some (.val (.int k (bif f a b then b else a)))
  | _, _ => none
def foldInt (f : Int → Int → Bool) : AV → List AV → Option AV
  | x, [] => some x
  | x, y :: r => match int2 f x y with | some z => foldInt f z r | none => none

/-- the rows lo, lo + 1, .. (n of them) become noughts -/
def clrf (lo n : Nat) (z : List Value) (f : Nat → Nat → PV) : Nat → Nat → PV := fun j c => bif Nat.ble lo j && Nat.blt j (lo + n) && Nat.blt c z.length then .val (z.getD c undef) else f j c
def evClear (tt : Nat → Option TD) (h : List (Nat × AObj)) (T : Nat) (x : CV) : Stp :=
  match tt T with
  | some { k := .slc e, .. } => match tt e with
    | some td => match x with
      | .sub id lo n => match aget h id with
        | some (.parr false nl k s N f) => bif Nat.beq s td.size && fitsAt k (td.zero.map .val) then .done { v := some (.tup []), rd := [id], wr := [(id, .parr false nl k s N (clrf lo n td.zero f))] } else .fail
        | _ => .fail
      | _ => .fail
    | none => .fail
  | _ => .fail
def evBuiltin (tt : Nat → Option TD) (h : List (Nat × AObj)) (nx : Nat) (b : Builtin) (tys : List Nat) (args : List AV) : Stp :=
  match b, tys, args with
  | .len, T :: _, .v x :: _ => evLen tt h T x
  | .cap, T :: _, .v (.c (.pv (.val (.slice none 0 0)))) :: _ => match tt T with
    | some td => match td.k with
      | .slc _ => .val (goInt 0)
      | _ => .fail
    | none => .fail
  | .append, [T, U], [.v (.c s), .v (.c x)] => match tt U with
    | some ud => evAppend tt h nx T ud.k s x
    | none => .fail
  | .clear, T :: _, .v (.c x) :: _ => evClear tt h T x
  | .max, _, x :: r => Stp.of (foldInt (fun a b => decide (b > a)) x r) fun v => .done { v := some v }
  | .min, _, x :: r => Stp.of (foldInt (fun a b => decide (b < a)) x r) fun v => .done { v := some v }
  | _, _, _ => .fail

def capsOf : List AV → Option (List (Nat × Nat))
  | [] => some []
  | .v (.c (.ptr id off)) :: r => (capsOf r).map ((id, off) :: ·)
  | _ => none

/-- nil slices become slices of one's own, of new objects without a block -/
def phs (nx : Nat) : List (Nat × CK × Nat) → List CV → List AObj → List CV × List AObj
  | [], l, os => (l, os)
  | (i, k, e) :: r, l, os => match l[i]? with
    | some (.pv (.val (.slice none 0 0))) => phs nx r (l.set i (.own (nx + os.length))) (os ++ [.parr false true k e 0 fun _ _ => .val undef])
    | _ => phs nx r l os
def phOf (tt : Nat → Option TD) (T : Nat) : List (Nat × CK × Nat) := match tt T with | some td => td.ph | none => []
def evMakeMap (tt : Nat → Option TD) (nx T : Nat) : Stp :=
  match tt T with
  | some { k := .map kt vt, .. } => match tt kt, tt vt with
    | some kd, some vd => .done { v := some (.c (.mp nx)), al := [.mapo kd.zero (isAgg kd.k) (kindsOf vd.size (vd.zero.map .val)) vd.size (isAgg vd.k) []] }
    | _, _ => .fail
  | _ => .fail
/-- may values of this type be keys? -/
def keyTy (tt : Nat → Option TD) (eqs : Nat → Bool) (kt : Nat) : Bool := match tt kt with
  | some td => match td.k with
    | .int k => match td.zero with | [.int z _] => z == k | _ => false
    | .bool => match td.zero with | [.bool _] => true | _ => false
    | .str => match td.zero with | [.string _] => true | _ => false
    | .strct _ => eqs kt
    | _ => false
  | none => false
def valEq : List Value → List Value → Bool
  | [], [] => true
  | x :: l, y :: r => zEq x y && valEq l r
  | _, _ => false
where zEq : Value → Value → Bool
  | .int a x, .int b y => a == b && x == y
  | .bool a, .bool b => a == b
  | .string a, .string b => a.size == 0 && b.size == 0
  | _, _ => false
def vvAgg : VV → Bool
  | .agg _ => true
  | .c _ => false
def evLookup (tt : Nat → Option TD) (eqs : Nat → Bool) (h : List (Nat × AObj)) (T : Nat) (x : CV) (i : VV) (ok : Bool) : Stp :=
  match tt T with
  | some { k := .map kt vt, .. } => match tt kt, tt vt, x, toPvs i.cells with
    | some kd, some vd, .mp id, some ks => match aget h id with
      | some (.mapo kz ka vc vs va l) =>
        bif keyTy tt eqs kt && valEq kz kd.zero && keyIs kd.zero ks && Nat.beq vs vd.size && (va == isAgg vd.k) && (ka == isAgg kd.k) && (vvAgg i == isAgg kd.k) then
          let res (v : VV) (b : Bool) : Stp := .done { v := some (bif ok then .tup [v, .c (.pv (.val (.bool b)))] else .v v), rd := [id] }
          .test (mhas l ks) (Stp.of (pack vd.k (pcells (elemF vc (mcell l ks)) 0 vd.size)) fun v => res v true) (Stp.of (pack vd.k (zeros vd.zero)) fun v => res v false)
        else .fail
      | _ => .fail
    | _, _, _, _ => .fail
  | _ => .fail
def evMapUpdate (tt : Nat → Option TD) (eqs : Nat → Bool) (h : List (Nat × AObj)) (T : Nat) (x : CV) (i v : VV) : Stp :=
  match tt T with
  | some { k := .map kt vt, .. } => match tt kt, tt vt, x, toPvs i.cells with
    | some kd, some vd, .mp id, some ks => match aget h id, frzAll h v.cells with
      | some (.mapo kz ka vc vs va l), some (ps, r, w) =>
        bif keyTy tt eqs kt && valEq kz kd.zero && keyIs kd.zero ks && Nat.beq vs vd.size && Nat.beq ps.length vd.size && (va == isAgg vd.k) && (ka == isAgg kd.k) && (vvAgg i == isAgg kd.k) && (vvAgg v == isAgg vd.k) && fitsAt vc ps && !(r.contains id) then
          .done { v := none, rd := id :: r, wr := w ++ [(id, .mapo kz ka vc vs va (mput l ks ps))] }
        else .fail
      | _, _ => .fail
    | _, _, _, _ => .fail
  | _ => .fail
/-- one operation that calls no function of the program -/
def evalOp (tt : Nat → Option TD) (eqs : Nat → Bool) (t : List (Nat × AV)) (h : List (Nat × AObj)) (nx : Nat) : Op → Stp
  | .move x | .assign x => Stp.of (opnd t x) fun v => .done { v := some v }
  | .pick c a b => match opnd t c with
    | some (.v (.c (.pv (.val (.bool z))))) => .test z (Stp.of (opnd t a) fun v => .done { v := some v }) (Stp.of (opnd t b) fun v => .done { v := some v })
    | _ => .fail
  | .alloc T => Stp.of (tt T) fun td => .done { v := some (.c (.ptr nx 0)), al := .cells false (phs (nx + 1) td.ph (zeros td.zero) []).1 :: (phs (nx + 1) td.ph (zeros td.zero) []).2 }
  | .box T x => Stp.of (opv t x) fun v => .done { v := some (.c (.ptr nx 0)), al := .cells false (phs (nx + 1) (phOf tt T) v.cells []).1 :: (phs (nx + 1) (phOf tt T) v.cells []).2 }
  | .makeMap T none => evMakeMap tt nx T
  | .lookup T x i ok => match opnd t x, opv t i with
    | some (.v (.c m)), some k => evLookup tt eqs h T m k ok
    | _, _ => .fail
  | .mapUpdate T x i v | .insert T x i v => match opnd t x, opv t i, opv t v with
    | some (.v (.c m)), some k, some y => evMapUpdate tt eqs h T m k y
    | _, _, _ => .fail
  | .build T ps => match tt T, parts t ps.toList with
    | some td, some vs => match td.k with
      | .strct fs => Stp.of (fillIn (fun i => fs[i]?) (zeros td.zero) vs) fun l => .done { v := some (.v (.agg l)) }
      | .arr _ e => Stp.of (tt e) fun ed => Stp.of (fillIn (fun i => some (i * ed.size, ed.size)) (zeros td.zero) vs) fun l => .done { v := some (.v (.agg l)) }
      | _ => .fail
    | _, _ => .fail
  | .buildSlice T len ps => evBuildSlice tt t h nx T len ps.toList
  | .load T a => match opnd t a with
    | some (.v (.c p)) => evLoad tt h T p
    | _ => .fail
  | .store T a x => match opnd t a, opv t x with
    | some (.v (.c p)), some v => evStore tt h T p v
    | _, _ => .fail
  | .nilCheck x => match opnd t x with
    | some (.v (.c (.ptr a b))) => .c (.ptr a b)
    | some (.v (.c (.ept a b c))) => match aget h a with
      | some o => bif live o then .done { v := some (.c (.ept a b c)), rd := [a] } else .fail
      | none => .fail
    | some (.v (.c (.pel a b c))) => .c (.pel a b c)
    | some (.v (.c (.clo a b))) => .c (.clo a b)
    | _ => .fail
  | .binOp op T x y _ => match opv t x, opv t y with
    | some a, some b => evBin tt eqs h T op a b
    | _, _ => .fail
  | .unOp op _ x => Stp.of (opv t x) (evUn op)
  | .convert S T x => match opnd t x with
    | some (.v (.c v)) => evConvert tt h nx S T v
    | _ => .fail
  | .makeFunc (.func f) first caps => match first.toList, (opvs t caps.toList).bind capsOf with
    | [], some cs => .c (.clo f cs)
    | _, _ => .fail
  | .makeSlice T l c => match opnd t l, opnd t c with
    | some (.v (.c (.pv (.val (.int _ a))))), some (.v (.c (.pv (.val (.int _ b))))) => evMakeSlice tt nx T a b
    | _, _ => .fail
  | .slice T x lo hi mx => match opnd t x, optInt t lo, optInt t hi, optInt t mx with
    | some (.v (.c v)), some a, some b, some c => evSlice tt h T v a b c
    | _, _, _, _ => .fail
  | .fieldAddr T x i => match opnd t x with
    | some (.v (.c p)) => evFieldAddr tt h T i p
    | _ => .fail
  | .indexAddr T x i => match opnd t x, opnd t i with
    | some (.v (.c p)), some (.v (.c (.pv (.val (.int _ n))))) => evIndexAddr tt h T p n
    | _, _ => .fail
  | .index T x i => match opv t x, opnd t i with
    | some v, some (.v (.c (.pv (.val (.int _ n))))) => bif strOk tt T v then evIndex tt T v n else .fail
    | _, _ => .fail
  | .extract x i => match opnd t x with
    | some (.tup l) => Stp.of l[i]? fun v => .done { v := some (.v v) }
    | _ => .fail
  | .call c => match c.callee with
    | .builtin b => Stp.of (opvs t c.args.toList) fun l => evBuiltin tt h nx b c.argTypes.toList l
    | _ => .fail
  | _ => .fail

/-! ### the heap at a call's border -/
def cvIds : CV → List Nat
  | .ptr id _ | .ept id _ _ | .own id | .pre id _ | .sub id _ _ | .csl id _ _ _ | .mp id => [id]
  | .clo _ caps => caps.map (·.1)
  | _ => []
def cvsIds : List CV → List Nat
  | [] => []
  | x :: l => cvIds x ++ cvsIds l
def vvIds (v : VV) : List Nat := cvsIds v.cells
def avIds : AV → List Nat
  | .v x => vvIds x
  | .tup l => l.flatMap vvIds
def avsIds : List AV → List Nat
  | [] => []
  | x :: l => avIds x ++ avsIds l
def objIds : AObj → List Nat
  | .cells _ l => cvsIds l
  | _ => []
def keysOf {α : Type} : List (Nat × α) → List Nat
  | [] => []
  | (x, _) :: l => x :: keysOf l
def has (l : List Nat) (x : Nat) : Bool := match l with | [] => false | y :: r => bif Nat.beq x y then true else has r x
def idx (l : List Nat) (x : Nat) : Option Nat := match l with | [] => none | y :: r => bif Nat.beq x y then some 0 else (idx r x).map (· + 1)
/-- what is reached, in the order of being met; what is dead is left out -/
def reach (h : List (Nat × AObj)) : Nat → List Nat → List Nat → Option (List Nat)
  | 0, _, _ => none
  | _ + 1, [], acc => some acc
  | n + 1, x :: xs, acc => bif has acc x then reach h n xs acc else match aget h x with
    | some .dead | none => reach h n xs acc
    | some o => reach h n (xs ++ objIds o) (acc ++ [x])

def renCV (ρ : Nat → Option Nat) : CV → CV
  | .ptr id off => match ρ id with | some j => .ptr j off | none => .dead
  | .ept id i off => match ρ id with | some j => .ept j i off | none => .dead
  | .own id => match ρ id with | some j => .own j | none => .dead
  | .pre id m => match ρ id with | some j => .pre j m | none => .dead
  | .sub id lo n => match ρ id with | some j => .sub j lo n | none => .dead
  | .csl id b n s => match ρ id with | some j => .csl j b n s | none => .dead
  | .mp id => match ρ id with | some j => .mp j | none => .dead
  | .clo f caps => match caps.mapM fun (id, off) => (ρ id).map fun j => (j, off) with | some cs => .clo f cs | none => .dead
  | .pv p => .pv p
  | .dead => .dead
  | .pel e f off => .pel e f off
def renVV (ρ : Nat → Option Nat) : VV → VV
  | .c x => .c (renCV ρ x)
  | .agg l => .agg (l.map (renCV ρ))
def renAV (ρ : Nat → Option Nat) : AV → AV
  | .v x => .v (renVV ρ x)
  | .tup l => .tup (l.map (renVV ρ))
def renObj (ρ : Nat → Option Nat) : AObj → AObj
  | .cells ro l => .cells ro (l.map (renCV ρ))
  | o => o
def objsAt (h : List (Nat × AObj)) (ρ : Nat → Option Nat) : List Nat → List AObj
  | [] => []
  | x :: l => renObj ρ ((aget h x).getD .dead) :: objsAt h ρ l
def number {α : Type} : Nat → List α → List (Nat × α)
  | _, [] => []
  | i, x :: l => (i, x) :: number (i + 1) l
/-- ids below m stay; the others that are reached are numbered from m on -/
def iota : Nat → Nat → List Nat
  | _, 0 => []
  | i, n + 1 => i :: iota (i + 1) n

def restrict (t : List (Nat × AV)) : List Nat → List (Nat × AV)
  | [] => []
  | x :: l => match aget t x with
    | some v => (x, v) :: restrict t l
    | none => restrict t l
/-- a loop's head: the slots that were there before it, the heap as far as it is reached -/
def norm (K : List Nat) (st : St) : Option St :=
  let t := restrict st.t K
  match reach st.h 4096 (avsIds (t.map (·.2)) ++ (objsAt st.h some (iota 0 st.m)).flatMap objIds) (iota 0 st.m) with
  | some acc =>
    let ρ := idx acc
    some { n := st.n, m := st.m, t := t.map fun (x, v) => (x, renAV ρ v), h := number 0 (objsAt st.h ρ acc), nx := acc.length }
  | none => none

def aputs {α : Type} (h : List (Nat × α)) : List (Nat × α) → List (Nat × α)
  | [] => h
  | (x, v) :: r => aputs (aput h x v) r
def allLt (n : Nat) : List Nat → Bool
  | [] => true
  | x :: l => Nat.blt x n && allLt n l
/-- all that is written: what was there and what is new -/
def Upd.all (u : Upd) (nx : Nat) : List (Nat × AObj) := u.wr ++ number nx u.al
def St.upd (st : St) (dst : Option Tmp) (u : Upd) : Option St :=
  bif allLt st.nx (keysOf u.wr) then match dst with
  | none => some { st with h := aputs st.h (u.all st.nx), nx := st.nx + u.al.length }
  | some d => bif Nat.blt d st.n then match u.v with
    | some v => some { st with t := aput st.t d v, h := aputs st.h (u.all st.nx), nx := st.nx + u.al.length }
    | none => none
    else none
  else none
def St.drop (st : St) (dst : Option Tmp) : St := match dst with
  | some d => { st with t := aput st.t d (.tup []) }
  | none => st

def callee (t : List (Nat × AV)) : Operand → Option (FuncId × List AV)
  | .func f => some (f, [])
  | x => match opnd t x with
    | some (.v (.c (.clo f caps))) => some (f, caps.map fun (id, off) => .c (.ptr id off))
    | _ => none

/-- what a call hands back, in the caller's numbers: the passed objects' (ps), new ones from nx on -/
def backRen (ps : List Nat) (nx : Nat) (j : Nat) : Option Nat :=
  bif Nat.blt j ps.length then ps[j]? else some (nx + (j - ps.length))
def zipObjs (ρ : Nat → Option Nat) : List Nat → List AObj → List (Nat × AObj)
  | p :: ps, o :: os => (p, renObj ρ o) :: zipObjs ρ ps os
  | _, _ => []

/-- an object that is lent -/
def roO : AObj → AObj
  | .dead => .dead
  | .cells _ l => .cells true l
  | .parr _ nl k e n f => .parr true nl k e n f
  | .mapo .. => .dead
/-- cells that are numbers, truths and texts alone -/
def plainK : CK → Nat → Bool
  | _, 0 => true
  | .int _ r, n + 1 | .bool r, n + 1 | .str r, n + 1 => plainK r n
  | _, _ + 1 => false
/-- what a function may answer to which things are lent: plain values, new rows of plain cells -/
def ansCV (os : List AObj) : CV → Bool
  | .pv (.val _) => true
  | .own j => match os[j]? with
    | some (.parr false _ k e _ _) => plainK k e
    | _ => false
  | _ => false
def ansVV (os : List AObj) : VV → Bool
  | .c x => ansCV os x
  | .agg l => l.all (ansCV os)
def ansAV (os : List AObj) : AV → Bool
  | .v x => ansVV os x
  | .tup l => l.all (ansVV os)
def distB : List Nat → Bool
  | [] => true
  | x :: l => !has l x && distB l
def ansR (nx : Nat) (ids : List Nat) (j : Nat) : Option Nat := (idx ids j).map (nx + ·)
def ansOs (os : List AObj) : List Nat → List AObj
  | [] => []
  | j :: r => (os[j]?).getD .dead :: ansOs os r
/-- nil slices that are handed over, as slices of their type -/
def nlL : List (Nat × CK × Nat) → List CV → List CV
  | [], l => l
  | (i, k, e) :: r, l => match l[i]? with
    | some (.pv (.val (.slice none 0 0))) => nlL r (l.set i (.pv (.sl true k e 0 fun _ _ => .val undef)))
    | _ => nlL r l
def nlVV (ps : List (Nat × CK × Nat)) : VV → VV
  | .c x => match ps with
    | (0, k, e) :: _ => match x with
      | .pv (.val (.slice none 0 0)) => .c (.pv (.sl true k e 0 fun _ _ => .val undef))
      | x => .c x
    | _ => .c x
  | .agg l => .agg (nlL ps l)
def nlA (tt : Nat → Option TD) : List Nat → List AV → List AV
  | T :: ts, .v x :: l => .v (nlVV (phOf tt T) x) :: nlA tt ts l
  | _ :: ts, x :: l => x :: nlA tt ts l
  | [], l => l
  | _, [] => []
/-- what is lent is handed over as it stands: slices that nobody writes -/
def frzC (h : List (Nat × AObj)) (x : CV) : CV := match x with
  | .own _ | .pre _ _ | .sub _ _ _ => match frz h x with
    | some (p, _, _) => .pv p
    | none => x
  | x => x
def frzVV (h : List (Nat × AObj)) : VV → VV
  | .c x => .c (frzC h x)
  | .agg l => .agg (l.map (frzC h))
def frzAV (h : List (Nat × AObj)) : AV → AV
  | .v x => .v (frzVV h x)
  | .tup l => .tup (l.map (frzVV h))
def frzO (h : List (Nat × AObj)) : AObj → AObj
  | .cells _ l => .cells true (l.map (frzC h))
  | .parr _ nl k e n f => .parr true nl k e n f
  | _ => .dead
def frzH (h : List (Nat × AObj)) : List (Nat × AObj) → List (Nat × AObj)
  | [] => []
  | (x, o) :: r => (x, frzO h o) :: frzH h r
/-- the heap, as far as it is handed over -/
def selH (h : List (Nat × AObj)) : List Nat → List (Nat × AObj)
  | [] => []
  | p :: r => match aget h p with
    | some o => (p, o) :: selH h r
    | none => selH h r
/-- cells that are the same as before, as far as that is seen at once -/
def sameC : CV → CV → Bool
  | .ptr a b, .ptr c d => Nat.beq a c && Nat.beq b d
  | .own a, .own b => Nat.beq a b
  | .mp a, .mp b => Nat.beq a b
  | .dead, .dead => true
  | _, _ => false
def sameL : List CV → List CV → Bool
  | [], [] => true
  | x :: l, y :: r => sameC x y && sameL l r
  | _, _ => false
def sameO : Option AObj → AObj → Bool
  | some (.cells false l), .cells false r => sameL l r
  | some .dead, .dead => true
  | _, _ => false
/-- what comes back as it was is not written -/
def thin (h : List (Nat × AObj)) : List (Nat × AObj) → List (Nat × AObj)
  | [] => []
  | p :: r => bif sameO (aget h p.1) p.2 then thin h r else p :: thin h r
def evalCall (C : Ctx) (t : List (Nat × AV)) (h : List (Nat × AObj)) (nx : Nat) (c : Call) (k : Upd → Option Out) : Option Out :=
  match c.callee with
  | .value fo => match callee t fo, opvs t c.args.toList with
    | some (f, caps), some args0 =>
      let args := args0 ++ caps
      match reach h 4096 (avsIds args) [] with
      | some ps => bif C.bor f then
          let hp := selH h ps
          match reach (frzH hp hp) 4096 (avsIds (nlA C.tt c.argTypes.toList (args.map (frzAV hp)))) [] with
          | some qs =>
            C.call f ((nlA C.tt c.argTypes.toList (args.map (frzAV hp))).map (renAV (idx qs))) ((objsAt (frzH hp hp) (idx qs) qs).map roO) fun v os =>
              bif ansAV os v && distB (avIds v) then k { v := some (renAV (ansR nx (avIds v)) v), rd := ps, al := ansOs os (avIds v) } else none
          | none => none
        else
        C.call f (args.map (renAV (idx ps))) (objsAt h (idx ps) ps) fun v os =>
          bif Nat.ble ps.length os.length then
            let ρ := backRen ps nx
            k { v := some (renAV ρ v), rd := ps, wr := thin h (zipObjs ρ ps os), al := (os.drop ps.length).map (renObj ρ) }
          else none
      | none => none
    | _, _ => none
  | _ => none

/-- the slot that an operation's guard looks at -/
def guardSlot (ops : List Oper) (j : Nat) : Option Tmp := (ops[j]?).bind (·.dst)

def evalOper (C : Ctx) (st : St) (o : Oper) (k : Upd → Option Out) : Option Out :=
  match o.op with
  | .call c => match c.callee with
    | .builtin _ => (evalOp C.tt C.eqs st.t st.h st.nx o.op).run k
    | _ => evalCall C st.t st.h st.nx c k
  | op => (evalOp C.tt C.eqs st.t st.h st.nx op).run k

/-- one operation with its guard; what comes behind it learns what was touched -/
def oneOp (C : Ctx) (all : List Oper) (o : Oper) (st : St) (k : St → List Nat → List Nat → Option Out) : Option Out :=
  let go (st : St) (b : Bool) : Option Out :=
    bif b then evalOper C st o (fun u => match st.upd o.dst u with
      | some st' => k st' u.rd (keysOf (u.all st.nx))
      | none => none)
    else k (st.drop o.dst) [] []
  match o.guard with
  | none => go st true
  | some (j, want) => match guardSlot all j with
    | some d => match aget st.t d with
      | some (.v (.c (.pv (.val (.bool b))))) =>
        bif b then go { st with t := aput st.t d (.b true) } want else go { st with t := aput st.t d (.b false) } (!want)
      | some (.tup []) => go st false
      | _ => none
    | none => none

def execOps (C : Ctx) (all : List Oper) (k : St → Option Out) : List Oper → St → Option Out
  | [], st => k st
  | o :: rest, st => oneOp C all o st fun st' _ _ => execOps C all k rest st'

/-! a region whose order is open: the operations in the text's order; whatever may change places touches nothing in common -/
def edgeMask (acc : List Nat) : List Edge → Nat
  | [] => 0
  | e :: es => (bif Region.binds .any e then 2 ^ e.on ||| acc.getD e.on 0 else 0) ||| edgeMask acc es
def befGo (acc : List Nat) : List Oper → List Nat
  | [] => acc
  | o :: r => befGo (acc ++ [edgeMask acc o.after.toList]) r
def befs (ops : List Oper) : List Nat := befGo [] ops
def looks (all : List Oper) (o : Oper) : List Nat :=
  (o.op.operands.toList.filterMap fun | .tmp t => some t | _ => none) ++ (match o.guard with | some (g, _) => (guardSlot all g).toList | none => [])
def disj (a b : List Nat) : Bool := a.all fun x => !has b x
def dstOf (o : Oper) : List Nat := o.dst.toList
/-- may these two change places, by their slots? -/
def apartT (all : List Oper) (x y : Oper) : Bool :=
  disj (dstOf x) (looks all y ++ dstOf y) && disj (dstOf y) (looks all x)
def tempsOk1 (all : List Oper) (b : Nat) (o : Oper) : Nat → List Oper → Bool
  | _, [] => true
  | i, x :: r => (Nat.testBit b i || apartT all x o) && tempsOk1 all b o (i + 1) r
def tempsGo (all : List Oper) (bs : List Nat) : Nat → List Oper → Bool
  | _, [] => true
  | j, o :: r => tempsOk1 all (bs.getD j 0) o 0 (all.take j) && tempsGo all bs (j + 1) r
def edgesOk : Nat → List Oper → Bool
  | _, [] => true
  | j, o :: r => (o.after.toList.all fun e => !Region.binds .any e || Nat.blt e.on j) && (match o.op with | .select .. => false | _ => true) && edgesOk (j + 1) r
def tempsOk (all : List Oper) : Bool := tempsGo all (befs all) 0 all && edgesOk 0 all
def okLog (b : Nat) (r w : List Nat) : List (Nat × List Nat × List Nat) → Bool
  | [] => true
  | (i, ri, wi) :: l => (Nat.testBit b i || (disj wi r && disj wi w && disj ri w)) && okLog b r w l
def execDraw (C : Ctx) (all : List Oper) (bs : List Nat) (k : St → Option Out) : List Oper → Nat → List (Nat × List Nat × List Nat) → St → Option Out
  | [], _, _, st => k st
  | o :: rest, j, log, st => oneOp C all o st fun st' r w =>
    bif okLog (bs.getD j 0) r w log then execDraw C all bs k rest (j + 1) ((j, r, w) :: log) st' else none

def loopN (body : St → Kont → Option Out) (K : List Nat) (k : Kont) : Nat → St → Option Out
  | 0, _ => none
  | n + 1, st => body st fun e st' => match e with
    | .normal => match norm K st' with
      | some st'' => loopN body K k n st''
      | none => none
    | e => k e st'

/-- the hook at a sequence: by the number of the region that it begins with -/
def seqHk {β : Type} (blk : Nat → Option β) : Code → Option β
  | .region id _ _ => blk (1000000 + id)
  | _ => none
def exec (C : Ctx) : Code → St → Kont → Option Out
  | .skip, st, k => k .normal st
  | .region _ ops false, st, k => execOps C ops.toList (k .normal) ops.toList st
  | .region _ ops true, st, k => bif tempsOk ops.toList then execDraw C ops.toList (befs ops.toList) (k .normal) ops.toList 0 [] st else none
  | .seq a b, st, k => match (seqHk C.blk a).bind fun g => g st with
    | some G => G k
    | none => exec C a st fun e st' => match e with
      | .normal => exec C b st' k
      | e => k e st'
  | .cond (.tmp d) x y, st, k => match aget st.t d with
    | some (.v (.c (.pv (.val (.bool b))))) => bif b then exec C x { st with t := aput st.t d (.b true) } k else exec C y { st with t := aput st.t d (.b false) } k
    | _ => none
  | .cond (.const (.bool b)) x y, st, k => bif b then exec C x st k else exec C y st k
  | .block id c, st, k => match (C.blk id).bind fun g => g st with
    | some G => G k
    | none => exec C c st fun e st' => match e with
      | .exit j => bif Nat.beq j id then k .normal st' else k (.exit j) st'
      | e => k e st'
  | .loop c, st, k => match norm (keysOf st.t) st with
    | some st' => loopN (fun st k => exec C c st k) (keysOf st.t) k C.fuel st'
    | none => none
  | .exit id, st, k => k (.exit id) st
  | .ret, st, k => k .ret st
  | _, _, _ => none

/-! ### functions -/
def resultOf (tt : Nat → Option TD) (st : St) : ResultVar → Option VV
  | .tmp x => (aget st.t x).bind asV
  | .cell a T => match aget st.t a, tt T with
    | some (.v (.c (.ptr id off))), some td => match aget st.h id with
      | some (.cells _ l) => (cut l off td.size).bind (pack td.k)
      | _ => none
    | _, _ => none
def resultsOf (tt : Nat → Option TD) (st : St) : List ResultVar → Option (List VV)
  | [] => some []
  | r :: l => match resultOf tt st r, resultsOf tt st l with
    | some v, some vs => some (v :: vs)
    | _, _ => none
/-- a slice's head that is handed back, and nothing else of it, becomes a slice of its own -/
def cntN (x : Nat) : List Nat → Nat
  | [] => 0
  | y :: r => bif Nat.beq x y then cntN x r + 1 else cntN x r
def trimC (all : List Nat) (x : CV) (st : St) : CV × St := match x with
  | .pre id m => match aget st.h id with
    | some (.parr false nl k e _ f) => bif Nat.beq (cntN id all) 1 then (.own st.nx, { st with h := aput (aput st.h id .dead) st.nx (.parr false nl k e m f), nx := st.nx + 1 }) else (x, st)
    | _ => (x, st)
  | x => (x, st)
def trimL (all : List Nat) : List CV → St → List CV × St
  | [], st => ([], st)
  | x :: l, st => let r := trimC all x st; let q := trimL all l r.2; (r.1 :: q.1, q.2)
def trimVV (all : List Nat) (v : VV) (st : St) : VV × St := match v with
  | .c x => let r := trimC all x st; (.c r.1, r.2)
  | .agg l => let r := trimL all l st; (.agg r.1, r.2)
def trimVL (all : List Nat) : List VV → St → List VV × St
  | [], st => ([], st)
  | x :: l, st => let r := trimVV all x st; let q := trimVL all l r.2; (r.1 :: q.1, q.2)
def trimAV (v : AV) (st : St) : AV × St := match v with
  | .v x => let r := trimVV (vvIds x) x st; (.v r.1, r.2)
  | .tup l => let r := trimVL (l.flatMap vvIds) l st; (.tup r.1, r.2)
def avOf : List VV → AV
  | [x] => .v x
  | l => .tup l
def trimQ (tr : Bool) (v : AV) (st : St) : AV × St := bif tr then trimAV v st else (v, st)
/-- nil slices that are handed back, as slices of one's own without a block -/
def phL : List (Nat × CK × Nat) → List CV → St → List CV × St
  | [], l, st => (l, st)
  | (i, k, e) :: r, l, st => match l[i]? with
    | some (.pv (.val (.slice none 0 0))) => phL r (l.set i (.own st.nx)) { st with h := aput st.h st.nx (.parr false true k e 0 fun _ _ => .val undef), nx := st.nx + 1 }
    | _ => phL r l st
def phVV (ps : List (Nat × CK × Nat)) (v : VV) (st : St) : VV × St := match v with
  | .c x => match ps with
    | (0, k, e) :: _ => match x with
      | .pv (.val (.slice none 0 0)) => (.c (.own st.nx), { st with h := aput st.h st.nx (.parr false true k e 0 fun _ _ => .val undef), nx := st.nx + 1 })
      | x => (.c x, st)
    | _ => (.c x, st)
  | .agg l => let q := phL ps l st; (.agg q.1, q.2)
def phVL (tt : Nat → Option TD) : List Nat → List VV → St → List VV × St
  | T :: ts, x :: l, st => let q := phVV (phOf tt T) x st; let r := phVL tt ts l q.2; (q.1 :: r.1, r.2)
  | _, l, st => (l, st)
def phQ (b : Bool) (tt : Nat → Option TD) (ts : List Nat) (vs : List VV) (st : St) : List VV × St := bif b then phVL tt ts vs st else (vs, st)
def leave (tt : Nat → Option TD) (tr ph : Bool) (fn : Func) (st : St)
 (k : AV → List AObj → Option Out) : Option Out :=
  match resultsOf tt st fn.results.toList with
  | some vs =>
    let p := phQ ph tt fn.resultTypes.toList vs st
    let vs := p.1
    let st := p.2
    let q := trimQ tr (avOf vs) st
    let v := q.1
    let st := q.2
    match reach st.h 4096 (avIds v ++ (objsAt st.h some (iota 0 st.m)).flatMap objIds) (iota 0 st.m) with
    | some acc => k (renAV (idx acc) v) (objsAt st.h (idx acc) acc)
    | none => none
  | none => none
def enter (C : Ctx) (fn : Func) (args : List AV) (hs : List AObj) (k : AV → List AObj → Option Out) : Option Out :=
  match fn.body with
  | some c => bif Nat.ble args.length fn.ntmps then
      exec C c { n := fn.ntmps, m := hs.length, t := number 0 args, h := number 0 hs, nx := hs.length } fun e st => match e with
        | .exit _ => none
        | _ => leave C.tt C.trim C.phr fn st k
    else none
  | none => none
/-- the program's functions, each by its code, so deep -/
noncomputable def run (tt : Nat → Option TD) (eqs : Nat → Bool) (funcs : Array Func) (fuel : Nat) (d : Nat) : VCall :=
  Nat.rec (fun _ _ _ _ => none) (fun _ (ih : VCall) f args hs k => match funcs[f]? with
    | some fn => enter { tt, eqs, call := ih, fuel } fn args hs k
    | none => none) d
end Go.Ve

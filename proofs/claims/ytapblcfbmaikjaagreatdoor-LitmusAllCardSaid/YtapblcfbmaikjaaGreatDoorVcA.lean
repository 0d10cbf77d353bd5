/- Verification conditions for code of the model: symbolic values, resources, the conditions of one operation and of code. Generic over the program; conditions: none. -/
import Derived.WalkKit
import Derived.WalkSpells
import Derived.WalkLawsBesides
import Derived.Orders
namespace Go.Vc
open Go

/-- A symbolic cell. 'v x': the value x; 'ptr i o': a pointer to cell o of own block i; 'sl': a slice header over own block i; 'ref i': the handle of resource i; 'elt i k sz o': a pointer to cell o of element k of row i, whose elements have sz cells; 'seg i lo n sz': n elements of row i from element lo. -/
inductive C where
  | junk
  | v (x : Value)
  | ptr (i o : Nat)
  | sl (i o len cap : Nat)
  | ref (i : Nat)
  | elt (i k sz o : Nat)
  | seg (i lo n sz : Nat)
  | clo (f : Nat) (caps : List (Nat ⊕ Value))

inductive SV where
  | c (x : C)
  | agg (xs : List C)
  | tup (xs : List (Bool × List C))

/-- How a type's values are read as data. -/
inductive Shape where
  | int (k : IntKind)
  | bool
  | str
  | slice
  | map
  | any
  | unit
  | pair (a b : Shape)
  | st (a : Shape)

@[reducible] def Shape.T : Shape → Type
  | .int _ => Int
  | .bool => Bool
  | .str => ByteArray
  | .slice => Option Addr × Nat × Nat
  | .map => Option Nat
  | .any => Value
  | .unit => Unit
  | .pair a b => a.T × b.T
  | .st a => a.T

def addrAdd : Addr → Nat → Addr
  | ⟨b, o, none⟩, n => ⟨b, o + n, none⟩
  | x, n => x.add n

/-- The cells of a value of a shape. -/
def Shape.enc : (s : Shape) → s.T → List Value
  | .int k, x => [.int k x]
  | .bool, x => [.bool x]
  | .str, x => [.string x]
  | .slice, x => [.slice x.1 x.2.1 x.2.2]
  | .map, x => [.map x]
  | .any, x => [x]
  | .unit, _ => []
  | .pair a b, x => a.enc x.1 ++ b.enc x.2
  | .st a, x => a.enc x

def Shape.cs : (s : Shape) → s.T → List C
  | .int k, x => [.v (.int k x)]
  | .bool, x => [.v (.bool x)]
  | .str, x => [.v (.string x)]
  | .slice, x => [.v (.slice x.1 x.2.1 x.2.2)]
  | .map, x => [.v (.map x)]
  | .any, x => [.v x]
  | .unit, _ => []
  | .pair a b, x => a.cs x.1 ++ b.cs x.2
  | .st a, x => a.cs x

def Shape.sv (s : Shape) (x : s.T) : SV :=
  match s, x with
  | .int k, x => .c (.v (.int k x))
  | .bool, x => .c (.v (.bool x))
  | .str, x => .c (.v (.string x))
  | .slice, x => .c (.v (.slice x.1 x.2.1 x.2.2))
  | .map, x => .c (.v (.map x))
  | .any, x => .c (.v x)
  | .st a, x => .agg (a.cs x)
  | .unit, _ => .agg []
  | .pair a b, x => .agg (a.cs x.1 ++ b.cs x.2)

def Shape.val (s : Shape) (x : s.T) : Value :=
  match s, x with
  | .int k, x => .int k x
  | .bool, x => .bool x
  | .str, x => .string x
  | .slice, x => .slice x.1 x.2.1 x.2.2
  | .map, x => .map x
  | .any, x => x
  | .st a, x => .agg (a.enc x).toArray
  | .unit, _ => .agg #[]
  | .pair a b, x => .agg (a.enc x.1 ++ b.enc x.2).toArray

/-- What must hold of the data of a shape: an 'any' is one cell. -/
def Shape.ok : (s : Shape) → s.T → Prop
  | .any, x => x.oneCell' = true
  | .pair a b, x => a.ok x.1 ∧ b.ok x.2
  | .st a, x => a.ok x
  | _, _ => True

def Shape.agg : Shape → Bool
  | .st _ => true
  | .pair _ _ => true
  | .unit => true
  | _ => false

def Shape.n : Shape → Nat
  | .unit => 0
  | .pair a b => a.n + b.n
  | .st a => a.n
  | _ => 1

/-- What is known of memory that nobody writes any more: cells and maps. -/
structure Store where
  c : Nat → Nat → Option Value
  o : Nat → Option Obj

def Store.le (S S' : Store) : Prop := (∀ b i x, S.c b i = some x → S'.c b i = some x) ∧ (∀ b x, S.o b = some x → S'.o b = some x)
def Store.of (w : World) : Store := ⟨fun b i => w.cell? ⟨b, i, none⟩, fun b => w.heap[b]?⟩
def Store.rd (S : Store) (b o : Nat) (l : List Value) : Prop := ∀ j x, l[j]? = some x → S.c b (o + j) = some x

/-- The keys that a map is asked for: integers, bools, strings. -/
def Shape.eq : (s : Shape) → s.T → s.T → Bool
  | .int _, (x : Int), (y : Int) => x == y
  | .bool, (x : Bool), (y : Bool) => x == y
  | .str, (x : ByteArray), (y : ByteArray) => x == y
  | .pair a b, x, y => a.eq x.1 y.1 && b.eq x.2 y.2
  | .st a, x, y => a.eq x y
  | _, _, _ => false
def mget (k : Shape) {V : Type} : List (k.T × V) → k.T → Option V
  | [], _ => none
  | p :: es, y => if k.eq y p.1 = true then some p.2 else mget k es y
def mset (k : Shape) {V : Type} : List (k.T × V) → k.T → V → List (k.T × V)
  | [], y, v => [(y, v)]
  | p :: es, y, v => if k.eq y p.1 = true then (y, v) :: es else p :: mset k es y v
def mdel (k : Shape) {V : Type} : List (k.T × V) → k.T → List (k.T × V)
  | [], _ => []
  | p :: es, y => if k.eq y p.1 = true then es else p :: mdel k es y

/-- A map's entries as data. -/
def mapIs (k e : Shape) (ents : Array MapEntry) (clock : Nat) (es : List (k.T × e.T)) : Prop :=
  ents.toList.map (fun x => (x.key, x.val)) = es.map (fun p => (k.val p.1, e.val p.2)) ∧ (∀ p ∈ es, e.ok p.2) ∧
    (ents.toList.map (·.born)).Nodup ∧ ∀ x ∈ ents.toList, x.born < clock

/-- The store knows a map. -/
def MapRd (S : Store) (b : Option Nat) (k e : Shape) (es : List (k.T × e.T)) : Prop := match b with
  | none => es = []
  | some b => ∃ ents clock, S.o b = some (.map ents clock) ∧ mapIs k e ents clock es

/-- The map that is gone through stands as it stood. -/
def iterOk (S : Store) (m : Option Nat) (ents : Array MapEntry) (clock : Nat) : Prop := match m with
  | none => True
  | some b => S.o b = some (.map ents clock)
def iterIs (S : Store) (b : Option Nat) (k e : Shape) (ents : Array MapEntry) (clock : Nat) (es : List (k.T × e.T)) : Prop := match b with
  | none => es = [] ∧ clock = 0
  | some b => S.o b = some (.map ents clock) ∧ mapIs k e ents clock es
theorem iter_of {S : Store} {b : Option Nat} {k e : Shape} {es : List (k.T × e.T)} (h : MapRd S b k e es) : ∃ ents clock, iterIs S b k e ents clock es ∧ iterOk S b ents clock := by
  cases b with
  | none => exact ⟨#[], 0, ⟨h, rfl⟩, trivial⟩
  | some b => obtain ⟨ents, clock, h1, h2⟩ := h; exact ⟨ents, clock, ⟨h1, h2⟩, h1⟩
theorem iterOk.le {S S' : Store} (h : S.le S') {m : Option Nat} {ents : Array MapEntry} {clock : Nat} (hi : iterOk S m ents clock) : iterOk S' m ents clock := by
  cases m with
  | none => trivial
  | some b => exact h.2 _ _ hi

/-- What the call owns. -/
inductive Res where
  | gone
  | box (cs : List C)
  | row (sh : Shape) (e : TypeId) (xs : List sh.T)
  | map (k e : Shape) (es : List (k.T × e.T))
  | iter (k e : Shape) (m : Option Nat) (ents : Array MapEntry) (clock : Nat) (left : List (k.T × e.T)) (cur : Option (k.T × e.T))
  | ext (Q : Value → Option Obj → Prop)
  | pool (sh : Shape) (e : TypeId) (l : List (Value × List sh.T))

inductive Kind where
  | int (k : IntKind)
  | bool
  | str
  | slice (e : Nat)
  | map (k e : Nat)
  | struct (fs : List (Nat × Nat))
  | array (n e : Nat)
  | ptr (e : Nat)
  | func
  | iface
  | other

/-- A type's row. -/
structure TI where
  kind : Kind
  sh : Shape
  sz : Nat
  bytes : Nat
  zero : List C
  eq : Bool := false
  /-- An own box of this type has a name from the beginning. -/
  named : Bool := false

/-- The store knows a slice's elements. -/
def RowRd (S : Store) (p : Option Addr) (sh : Shape) (xs : List sh.T) : Prop :=
  (xs = [] ∨ ∃ b o, p = some ⟨b, o, none⟩ ∧ S.rd b o (xs.flatMap sh.enc)) ∧ ∀ x ∈ xs, sh.ok x
/-- A slice value whose elements the store knows. -/
def RowIs (S : Store) (v : Value) (sh : Shape) (xs : List sh.T) : Prop := ∃ p c, v = .slice p xs.length c ∧ RowRd S p sh xs
/-- How an own slice's value looks: its address and its length. -/
def PForm (p : Option Addr) (n c : Nat) : Prop := (p = none ∧ n = 0 ∧ c = 0) ∨ ∃ g, p = some ⟨g, 0, none⟩ ∧ n ≤ c
/-- The store knows nothing of this block. -/
def Fresh (S : Store) (p : Option Addr) : Prop := ∀ a, p = some a → (∀ i, S.c a.block i = none) ∧ S.o a.block = none
/-- An own box whose block has a name: pointers to it may lie in rows. -/
def BoxAt (b : Nat) (vs : List Value) (q : Option TypeId) (h : Value) (o : Option Obj) : Prop := h = .pointer (some ⟨b, 0, none⟩) ∧ (∀ v ∈ vs, v.oneCell' = true) ∧ ∃ T rest, (∀ t, q = some t → T = t ∧ rest = []) ∧ o = some (.cells (vs ++ rest).toArray T (0, 0))
/-- The store knows the whole block that a row lies in. -/
def Whole (S : Store) (p : Option Addr) (e : TypeId) (vs : List Value) : Prop := ∀ a, p = some a → ∃ rest, S.o a.block = some (.cells (vs ++ rest).toArray e (0, 0))
/-- A map that is gone through while it turns: its entries with their births. -/
def mapB (k e : Shape) (ents : Array MapEntry) (l : List (Nat × k.T × e.T)) : Prop := ents.toList.map (·.born) = l.map (·.1)
def MapAt (k e : Shape) (mb clock : Nat) (l : List (Nat × k.T × e.T)) (h : Value) (o : Option Obj) : Prop := h = .map (some mb) ∧ ∃ ents, o = some (.map ents clock) ∧ mapB k e ents l ∧ mapIs k e ents clock (l.map (·.2))
/-- An own map with a name. -/
def MapN (k e : Shape) (mb : Nat) (l : List (k.T × e.T)) (h : Value) (o : Option Obj) : Prop := h = .map (some mb) ∧ ∃ ents clock, o = some (.map ents clock) ∧ mapIs k e ents clock l
/-- Its iterator: the births that it has stepped over. -/
def IterAt (mb clock : Nat) (seen : List Nat) (h : Value) (o : Option Obj) : Prop := (∃ b, h = .pointer (some ⟨b, 0, none⟩)) ∧ o = some (.mapIter (some mb) clock seen.toArray clock)
/-- The first entry with this key gets a value; it goes. -/
def msetB (k : Shape) {V : Type} : List (Nat × k.T × V) → k.T → V → List (Nat × k.T × V)
  | [], _, _ => []
  | p :: es, y, v => if k.eq y p.2.1 = true then (p.1, y, v) :: es else p :: msetB k es y v
def mdelB (k : Shape) {V : Type} : List (Nat × k.T × V) → k.T → List (Nat × k.T × V)
  | [], _ => []
  | p :: es, y => if k.eq y p.2.1 = true then es else p :: mdelB k es y
def hasExt : List Res → Bool
  | [] => false
  | .ext _ :: _ => true
  | _ :: r => hasExt r
def hasPool : List Res → Bool
  | [] => false
  | .pool _ _ _ :: _ => true
  | _ :: r => hasPool r
/-- The store knows what the pools hold. -/
def poolsRd : List Res → Store → Prop
  | [], _ => True
  | .pool sh _ l :: r, S => (∀ p ∈ l, RowIs S p.1 sh p.2) ∧ poolsRd r S
  | _ :: r, S => poolsRd r S
/-- The store, and with it what the pools hold. -/
def Lk (r : List Res) (S : Store) (Q : Store → Prop) : Prop := match hasPool r with
  | true => ∀ S', S.le S' → poolsRd r S' → Q S'
  | false => Q S

/-- Cells back to data: one datum, and what is left. -/
def Shape.dec : (s : Shape) → List C → Option (s.T × List C)
  | .int k, l => match l with
    | .v (.int k' x) :: l => if k' = k then some (x, l) else none
    | _ => none
  | .bool, l => match l with
    | .v (.bool x) :: l => some (x, l)
    | _ => none
  | .str, l => match l with
    | .v (.string x) :: l => some (x, l)
    | _ => none
  | .slice, l => match l with
    | .v (.slice p n c) :: l => some ((p, n, c), l)
    | _ => none
  | .map, l => match l with
    | .v (.map b) :: l => some (b, l)
    | _ => none
  | .any, l => match l with
    | .v x :: l => some (x, l)
    | _ => none
  | .unit, l => some ((), l)
  | .pair a b, l => match a.dec l with
    | some (x, l) => match b.dec l with
      | some (y, l) => some ((x, y), l)
      | none => none
    | none => none
  | .st a, l => a.dec l
def Shape.decs (s : Shape) : Nat → List C → Option (List s.T)
  | 0, [] => some []
  | 0, _ :: _ => none
  | n + 1, l => match s.dec l with
    | some (x, l) => match Shape.decs s n l with
      | some xs => some (x :: xs)
      | none => none
    | none => none

/-- What follows: of the slots, the resources, the store. -/
abbrev SK := List SV → List Res → Store → Prop

def nth : List SV → Nat → SV
  | [], _ => .c .junk
  | x :: _, 0 => x
  | _ :: xs, n + 1 => nth xs n

def setK : List SV → Nat → SV → (List SV → Prop) → Prop
  | [], _, _, k => k []
  | _ :: xs, 0, v, k => k (v :: xs)
  | x :: xs, n + 1, v, k => setK xs n v fun ys => k (x :: ys)

def ev (t : List SV) : Operand → SV
  | .tmp i => nth t i
  | .const x => match x with
    | .agg _ => .c .junk
    | .tuple _ => .c .junk
    | x => .c (.v x)
  | .global g => .c (.v (.pointer (some ⟨g, 0, none⟩)))
  | .func f => .c (.v (.func (.func f) #[] #[]))

/-- The value is brought to its head form, then handed on. -/
def forceC (x : C) (k : C → Prop) : Prop := match x with
  | .junk => k .junk
  | .v x => k (.v x)
  | .ptr i o => k (.ptr i o)
  | .sl i o n m => k (.sl i o n m)
  | .ref i => k (.ref i)
  | .elt i j sz o => k (.elt i j sz o)
  | .seg i lo n sz => k (.seg i lo n sz)
  | .clo f cs => k (.clo f cs)

def forceL : List C → (List C → Prop) → Prop
  | [], k => k []
  | x :: xs, k => forceC x fun x => forceL xs fun xs => k (x :: xs)

def forceT : List (Bool × List C) → (List (Bool × List C) → Prop) → Prop
  | [], k => k []
  | (true, x) :: xs, k => forceL x fun x => forceT xs fun xs => k ((true, x) :: xs)
  | (false, x) :: xs, k => forceL x fun x => forceT xs fun xs => k ((false, x) :: xs)

def force (x : SV) (k : SV → Prop) : Prop := match x with
  | .c x => forceC x fun x => k (.c x)
  | .agg xs => forceL xs fun xs => k (.agg xs)
  | .tup xs => forceT xs fun xs => k (.tup xs)

def put (t : List SV) (d : Option Tmp) (v : SV) (K : List SV → Prop) : Prop := match d with
  | none => K t
  | some d => force v fun v => setK t d v K

def lenK : List Res → (Nat → Prop) → Prop
  | [], k => k 0
  | _ :: xs, k => lenK xs fun n => k (n + 1)
def snocK : List Res → Res → (List Res → Prop) → Prop
  | [], x, k => k [x]
  | y :: ys, x, k => snocK ys x fun ys => k (y :: ys)
def setR : List Res → Nat → Res → (List Res → Prop) → Prop
  | [], _, _, k => k []
  | _ :: xs, 0, v, k => k (v :: xs)
  | x :: xs, n + 1, v, k => setR xs n v fun ys => k (x :: ys)
def nthR : List Res → Nat → Res
  | [], _ => .gone
  | x :: _, 0 => x
  | _ :: xs, n + 1 => nthR xs n

/-- Cells off .. off + n - 1. -/
def cut (cs : List C) (off n : Nat) : List C := (cs.drop off).take n

/-- A part of a row of cells, as the type says. -/
def partK (ti : TI) (cs : List C) (off : Nat) (K : SV → Prop) : Prop :=
  if off + ti.sz ≤ cs.length then
    match ti.sh.agg with
    | true => K (.agg (cut cs off ti.sz))
    | false => match cs[off]? with
      | some x => K (.c x)
      | none => False
  else False

def fieldAt (tt : Nat → Option TI) (s f : Nat) : Option (Nat × TI) :=
  match tt s with
  | some ti => match ti.kind with
    | .struct fs => match fs[f]? with
      | some (off, t) => match tt t with
        | some fi => some (off, fi)
        | none => none
      | none => none
    | _ => none
  | none => none

/-- Two cells that '==' compares without looking at memory. -/
def eqC : C → C → Option Bool
  | .v (.int _ a), .v (.int _ b) => some (a == b)
  | .v (.bool a), .v (.bool b) => some (a == b)
  | .v (.string a), .v (.string b) => some (a.toList == b.toList)
  | _, _ => none

def toVals : List C → Option (List Value)
  | [] => some []
  | .v x :: xs => match toVals xs with
    | some ys => some (x :: ys)
    | none => none
  | _ :: _ => none

/-- The parts of a struct, laid over its zero cells. -/
def buildK (tt : Nat → Option TI) (fs : List (Nat × Nat)) (t : List SV) (K : SV → Prop) : List C → List (Nat × Operand) → Prop
  | cs, [] => K (.agg cs)
  | cs, (f, x) :: rest => match fs[f]? with
    | some (off, fty) => match tt fty with
      | some fi => match ev t x with
        | .c .junk => False
        | .c y => if fi.sz = 1 ∧ off + 1 ≤ cs.length then forceL (cs.take off ++ [y] ++ cs.drop (off + 1)) fun cs => buildK tt fs t K cs rest else False
        | .agg ys => if fi.sz = ys.length ∧ off + ys.length ≤ cs.length then forceL (cs.take off ++ ys ++ cs.drop (off + ys.length)) fun cs => buildK tt fs t K cs rest else False
        | _ => False
      | none => False
    | none => False

/-- Cells of a symbolic value. -/
def cellsOf : SV → Option (List C)
  | .c .junk => none
  | .c x => some [x]
  | .agg xs => some xs
  | .tup _ => none

/-- The key's type is read by the shape, and '==' on it needs no memory. -/
def keyFits : Kind → Shape → Bool
  | .int a, .int b => decide (a = b)
  | .bool, .bool => true
  | .str, .str => true
  | _, _ => false

def keyPrim : Kind → Shape → Bool
  | .int a, .int b => decide (a = b)
  | .bool, .bool => true
  | .str, .str => true
  | _, _ => false
/-- The fields of a struct that is a key. -/
def keyFs (tt : Nat → Option TI) : List (Nat × Nat) → Shape → Nat → Bool
  | [], _, _ => false
  | [(off, ty)], s, o => off == o && (match tt ty with | some fi => keyPrim fi.kind s | none => false)
  | (off, ty) :: rest, s, o => match s with
    | .pair a b => off == o && (match tt ty with | some fi => keyPrim fi.kind a | none => false) && keyFs tt rest b (o + 1)
    | _ => false
def keyOk (tt : Nat → Option TI) (ki : TI) (ks : Shape) : Bool := match ki.kind with
  | .struct fs => match ks with
    | .st s => ki.eq && keyFs tt fs s 0
    | _ => false
  | kd => keyFits kd ks

/-- A look into a map. -/
def lookK (tt : Nat → Option TI) (kd : TI) (ks es : Shape) (zero : List C) (l : List (ks.T × es.T)) (k : SV) (ok : Bool) (K : SV → Prop) : Prop :=
  if keyOk tt kd ks = true then ∃ (kk : ks.T) (z : es.T), k = ks.sv kk ∧ es.cs z = zero ∧ (match ok with
    | true => K (.tup [(es.agg, es.cs ((mget ks l kk).getD z)), (false, [.v (.bool (mget ks l kk).isSome)])])
    | false => K (es.sv ((mget ks l kk).getD z))) else False

def toVal : SV → Option Value
  | .c (.v x) => some x
  | .agg cs => match toVals cs with
    | some ys => some (.agg ys.toArray)
    | none => none
  | _ => none

def valsOf (t : List SV) : List Operand → Option (List Value)
  | [] => some []
  | x :: xs => match toVal (ev t x), valsOf t xs with
    | some y, some ys => some (y :: ys)
    | _, _ => none

/-- What a function value captures: own boxes and plain values. -/
def capsOf (t : List SV) : List Operand → Option (List (Nat ⊕ Value))
  | [] => some []
  | x :: xs => match ev t x, capsOf t xs with
    | .c (.ptr i 0), some ys => some (Sum.inl i :: ys)
    | .c (.v u), some ys => some (Sum.inr u :: ys)
    | _, _ => none

/-- A slice's bound. -/
def boundK (t : List SV) (x : Option Operand) (d : Nat) (K : Nat → Prop) : Prop := match x with
  | none => K d
  | some x => match ev t x with
    | .c (.v (.int _ n)) => 0 ≤ n ∧ K n.toNat
    | _ => False

/-- '==' on two structs of plain fields. -/
def eqFs (tt : Nat → Option TI) (xs ys : List C) : List (Nat × Nat) → Option Bool
  | [] => some true
  | (off, ty) :: rest => match tt ty, xs[off]?, ys[off]? with
    | some fi, some x, some y => match fi.kind, x, y with
      | .int _, .v (.int k a), .v (.int k' b) => if k = k' then match eqFs tt xs ys rest with
        | some r => some ((a == b) && r)
        | none => none else none
      | .bool, .v (.bool a), .v (.bool b) => match eqFs tt xs ys rest with
        | some r => some ((a == b) && r)
        | none => none
      | .str, .v (.string a), .v (.string b) => match eqFs tt xs ys rest with
        | some r => some ((a.toList == b.toList) && r)
        | none => none
      | _, _, _ => none
    | _, _, _ => none

/-- The same where fields may be structs of plain fields. -/
def eqFs2 (tt : Nat → Option TI) (xs ys : List C) : List (Nat × Nat) → Option Bool
  | [] => some true
  | (off, ty) :: rest => match tt ty with
    | some fi => match fi.kind, fi.eq with
      | .struct fs, true => if off + fi.sz ≤ xs.length ∧ off + fi.sz ≤ ys.length then (match eqFs tt ((xs.drop off).take fi.sz) ((ys.drop off).take fi.sz) fs, eqFs2 tt xs ys rest with
        | some a, some r => some (a && r)
        | _, _ => none) else none
      | _, _ => match eqFs tt xs ys [(off, ty)], eqFs2 tt xs ys rest with
        | some a, some r => some (a && r)
        | _, _ => none
    | none => none
def eqFsN (tt : Nat → Option TI) (xs ys : List C) (fs : List (Nat × Nat)) : Option Bool := match eqFs tt xs ys fs with
  | some b => some b
  | none => eqFs2 tt xs ys fs

def isNilFunc : Value → Bool
  | .nilFunc => true
  | _ => false

/-- A place l elements further on. -/
def isNilConst : Operand → Bool
  | .const .nilFunc => true
  | _ => false

/-- nil, of a map or of a slice. -/
def isNil2 : Operand → Bool
  | .const (.map none) => true
  | .const (.slice none 0 0) => true
  | .const .nilIface => true
  | _ => false
def isNilAt : Operand → Kind → Bool
  | .const (.map none), .map _ _ => true
  | .const (.slice none 0 0), .slice _ => true
  | .const .nilIface, .iface => true
  | _, _ => false
/-- A map or a slice held against nil: is it nil? -/
def nilQ (r : List Res) (kd : Kind) : SV → Option Bool
  | .c (.v (.map p)) => match kd with
    | .map _ _ => some p.isNone
    | _ => none
  | .c (.v (.slice p _ _)) => match kd with
    | .slice _ => some p.isNone
    | _ => none
  | .c (.v .nilIface) => match kd with
    | .iface => some true
    | _ => none
  | .c (.v (.iface _ _)) => match kd with
    | .iface => some false
    | _ => none
  | .c (.ref i) => match nthR r i, kd with
    | .map _ _ _, .map _ _ => some false
    | _, _ => none
  | _ => none

/-- The bytes of a slice as a string. -/
def bytesOf (xs : List Int) : ByteArray := xs.foldl (fun r n => r.push (UInt8.ofNat n.toNat)) ByteArray.empty
def notIface : Kind → Bool
  | .iface => false
  | .other => false
  | _ => true
/-- A conversion of a slice of bytes to a string. -/
def bytesTo (tt : Nat → Option TI) (si di : TI) : Bool := match si.kind, di.kind with
  | .slice e, .str => match tt e with
    | some ei => match ei.kind with
      | .int .u8 => true
      | _ => false
    | none => false
  | _, _ => false

/-! Bits of two numbers of one kind. -/
def bitAnd (k : IntKind) (a b : Int) : Int := k.wrap (BitVec.ofInt k.bits a &&& BitVec.ofInt k.bits b).toNat
def bitOr (k : IntKind) (a b : Int) : Int := k.wrap (BitVec.ofInt k.bits a ||| BitVec.ofInt k.bits b).toNat
def bitXor (k : IntKind) (a b : Int) : Int := k.wrap (BitVec.ofInt k.bits a ^^^ BitVec.ofInt k.bits b).toNat
def bitAndNot (k : IntKind) (a b : Int) : Int := k.wrap (BitVec.ofInt k.bits a &&& ~~~ BitVec.ofInt k.bits b).toNat

/-- A method of an interface value whose receiver is not nil. -/
def NotNil (P : Program) (T : TypeId) (v : Value) (name : String) : Prop := ∀ w : World, (nilAhead (P.types.size + Made.depth) T v name).run P w = .ok (some false) w
/-- An operation that leaves memory alone: what it yields. -/
def vcQ (P : Program) (tt : Nat → Option TI) (t : List SV) (r : List Res) (S : Store) (op : Op) (K : SV → Prop) : Prop := match op with
  | .move x => K (ev t x)
  | .assign x => K (ev t x)
  | .nilCheck x => match ev t x with
    | .c (.ptr i o) => K (.c (.ptr i o))
    | .c (.elt i k sz o) => K (.c (.elt i k sz o))
    | .c (.v (.pointer (some p))) => K (.c (.v (.pointer (some p))))
    | .c (.v (.func (.method name) first caps)) => match (first[0]? : Option Value) with
      | some (.iface T v) => NotNil P T v name ∧ K (.c (.v (.func (.method name) first caps)))
      | _ => False
    | _ => False
  | .pick c a b => match ev t c with
    | .c (.v (.bool true)) => K (ev t a)
    | .c (.v (.bool false)) => K (ev t b)
    | _ => False
  | .extract x i => match ev t x with
    | .tup xs => match xs[i]? with
      | some (true, cs) => K (.agg cs)
      | some (false, [x]) => K (.c x)
      | _ => False
    | _ => False
  | .fieldAddr s x f => match fieldAt tt s f with
    | some (off, fi) => if fi.sz = 0 then False else match ev t x with
      | .c (.ptr i o) => K (.c (.ptr i (o + off)))
      | .c (.elt i k sz o) => K (.c (.elt i k sz (o + off)))
      | .c (.v (.pointer (some ⟨b, o, none⟩))) => K (.c (.v (.pointer (some ⟨b, o + off, none⟩))))
      | _ => False
    | none => False
  | .field s x f => match fieldAt tt s f, ev t x with
    | some (off, fi), .agg cs => partK fi cs off K
    | _, _ => False
  | .load ty x => match tt ty, ev t x with
    | some ti, .c (.ptr i o) => match nthR r i with
      | .box cs => partK ti cs o K
      | _ => False
    | some ti, .c (.elt i k sz o) => match nthR r i with
      | .row sh _ xs => if sh.n = sz then ∃ x, xs[k]? = some x ∧ partK ti (sh.cs x) o K else False
      | _ => False
    | some ti, .c (.v (.pointer (some ⟨b, o, none⟩))) => match hasExt r with
      | true => (∃ i vs q, nthR r i = .ext (BoxAt b vs q) ∧ partK ti (vs.map .v) o K) ∨ ∃ x : ti.sh.T, ti.sh.ok x ∧ Lk r S (fun S => S.rd b o (ti.sh.enc x)) ∧ K (ti.sh.sv x)
      | false => ∃ x : ti.sh.T, ti.sh.ok x ∧ Lk r S (fun S => S.rd b o (ti.sh.enc x)) ∧ K (ti.sh.sv x)
    | _, _ => False
  | .binOp op ty x y _ => match isNilConst y with
   | true => match ev t x, tt ty with
     | .c (.v f), some ti => match ti.kind with
       | .func => (f = .nilFunc ∨ ∃ g a c, f = .func g a c) ∧ (match op with
         | .eql => K (.c (.v (.bool (isNilFunc f))))
         | .neq => K (.c (.v (.bool (!(isNilFunc f)))))
         | _ => False)
       | _ => False
     | _, _ => False
   | false => match isNil2 y with
   | true => match tt ty with
     | some ti => match isNilAt y ti.kind, nilQ r ti.kind (ev t x), op with
       | true, some b, .eql => K (.c (.v (.bool b)))
       | true, some b, .neq => K (.c (.v (.bool (!b))))
       | _, _, _ => False
     | none => False
   | false => match ev t x, ev t y with
    | .agg xs, .agg ys => match tt ty with
      | some ti => match ti.kind, ti.eq with
        | .struct fs, true => match eqFsN tt xs ys fs, op with
          | some b, .eql => K (.c (.v (.bool b)))
          | some b, .neq => K (.c (.v (.bool (!b))))
          | _, _ => False
        | _, _ => False
      | none => False
    | .c (.v (.int k a)), .c (.v (.int k' b)) => match op with
      | .shl => 0 ≤ b ∧ ∃ r, k.wrap (a * 2 ^ (min b.toNat k.bits)) = r ∧ K (.c (.v (.int k r)))
      | .shr => 0 ≤ b ∧ ∃ r, a.fdiv (2 ^ (min b.toNat k.bits)) = r ∧ K (.c (.v (.int k r)))
      | op => if k = k' then (match op with
        | .add => ∃ r, k.wrap (a + b) = r ∧ K (.c (.v (.int k r)))
        | .sub => ∃ r, k.wrap (a - b) = r ∧ K (.c (.v (.int k r)))
        | .mul => ∃ r, k.wrap (a * b) = r ∧ K (.c (.v (.int k r)))
        | .quo => b ≠ 0 ∧ ∃ r, k.wrap (a.tdiv b) = r ∧ K (.c (.v (.int k r)))
        | .rem => b ≠ 0 ∧ ∃ r, a.tmod b = r ∧ K (.c (.v (.int k r)))
        | .and => ∃ r, bitAnd k a b = r ∧ K (.c (.v (.int k r)))
        | .or => ∃ r, bitOr k a b = r ∧ K (.c (.v (.int k r)))
        | .xor => ∃ r, bitXor k a b = r ∧ K (.c (.v (.int k r)))
        | .andNot => ∃ r, bitAndNot k a b = r ∧ K (.c (.v (.int k r)))
        | .eql => K (.c (.v (.bool (a == b))))
        | .neq => K (.c (.v (.bool (a != b))))
        | .lss => K (.c (.v (.bool (decide (a < b)))))
        | .leq => K (.c (.v (.bool (decide (a ≤ b)))))
        | .gtr => K (.c (.v (.bool (decide (a > b)))))
        | .geq => K (.c (.v (.bool (decide (a ≥ b)))))
        | _ => False) else False
    | .c (.v (.bool a)), .c (.v (.bool b)) => match tt ty with
      | some ti => match ti.kind, op with
        | .bool, .eql => K (.c (.v (.bool (a == b))))
        | .bool, .neq => K (.c (.v (.bool (!(a == b)))))
        | _, _ => False
      | none => False
    | .c (.v (.string a)), .c (.v (.string b)) => match op with
      | .eql => K (.c (.v (.bool (a.toList == b.toList))))
      | .neq => K (.c (.v (.bool (!(a.toList == b.toList)))))
      | .lss => K (.c (.v (.bool (Op.bytesLess a.toList b.toList))))
      | .leq => K (.c (.v (.bool (Op.bytesLess a.toList b.toList || a.toList == b.toList))))
      | .gtr => K (.c (.v (.bool (!(Op.bytesLess a.toList b.toList || a.toList == b.toList)))))
      | .geq => K (.c (.v (.bool (!(Op.bytesLess a.toList b.toList)))))
      | .add => a.size + b.size ≤ 9223372036854775807 ∧ K (.c (.v (.string (a ++ b))))
      | _ => False
    | _, _ => False
  | .unOp op _ x => match op, ev t x with
    | .not, .c (.v (.bool b)) => K (.c (.v (.bool (!b))))
    | .neg, .c (.v (.int k n)) => ∃ r, k.wrap (0 - n) = r ∧ K (.c (.v (.int k r)))
    | _, _ => False
  | .convert src dst x => match tt src, tt dst, ev t x with
    | some si, some di, .c (.v (.int _ n)) => match si.kind, di.kind with
      | .int _, .int k => ∃ r, k.wrap n = r ∧ K (.c (.v (.int k r)))
      | _, _ => False
    | some si, some di, .c (.v (.slice p n _)) => match bytesTo tt si di with
      | true => ∃ xs : List Int, xs.length = n ∧ RowRd S p (.int .u8) xs ∧ K (.c (.v (.string (bytesOf xs))))
      | false => False
    | some si, some di, .c (.ref i) => match nthR r i with
      | .row (.int .u8) _ xs => match bytesTo tt si di with
        | true => K (.c (.v (.string (bytesOf xs))))
        | false => False
      | _ => False
    | some _, some di, .c (.v (.string s)) => match di.kind with
      | .str => K (.c (.v (.string s)))
      | _ => False
    | _, _, _ => False
  | .makeInterface ty x => match tt ty with
    | some ti => match notIface ti.kind, toVal (ev t x) with
      | true, some v => K (.c (.v (.iface ty v)))
      | _, _ => False
    | none => False
  | .build ty parts => match tt ty with
    | some ti => match ti.kind, ti.sh.agg with
      | .struct fs, true => buildK tt fs t K ti.zero parts.toList
      | .array n e, true => match tt e with
        | some ei => buildK tt ((List.range n).map fun i => (i * ei.sz, e)) t K ti.zero parts.toList
        | none => False
      | _, _ => False
    | none => False
  | .lookup ty m k ok => match tt ty with
    | some ti => match ti.kind with
      | .map kt et => match tt kt, tt et with
        | some ki, some ei => match ev t m with
          | .c (.ref i) => match nthR r i with
            | .map ks es l => if es.agg = ei.sh.agg then lookK tt ki ks es ei.zero l (ev t k) ok K else False
            | _ => False
          | .c (.v (.map b)) => ∃ l : List (ki.sh.T × ei.sh.T), MapRd S b ki.sh ei.sh l ∧ lookK tt ki ki.sh ei.sh ei.zero l (ev t k) ok K
          | _ => False
        | _, _ => False
      | _ => False
    | none => False
  | .indexAddr ty x i => match tt ty, ev t i with
    | some ti, .c (.v (.int _ n)) => match ti.kind, ev t x with
      | .slice e, .c (.v (.slice a len _)) => match tt e with
        | some ei => 0 ≤ n ∧ n < len ∧ ∃ b o, a = some ⟨b, o, none⟩ ∧ K (.c (.v (.pointer (some ⟨b, o + n.toNat * ei.sz, none⟩))))
        | none => False
      | .slice e, .c (.ref i) => match nthR r i with
        | .row sh _ xs => match tt e with
          | some ei => if sh.n = ei.sz then 0 ≤ n ∧ n < xs.length ∧ K (.c (.elt i n.toNat ei.sz 0)) else False
          | none => False
        | _ => False
      | .array m e, .c (.ptr i o) => match tt e with
        | some ei => 0 ≤ n ∧ n < m ∧ K (.c (.ptr i (o + n.toNat * ei.sz)))
        | none => False
      | .array m e, .c (.v (.pointer (some ⟨b, o, none⟩))) => match tt e with
        | some ei => 0 ≤ n ∧ n < m ∧ K (.c (.v (.pointer (some ⟨b, o + n.toNat * ei.sz, none⟩))))
        | none => False
      | .slice e, .c (.sl j o len _) => match tt e with
        | some ei => 0 ≤ n ∧ n < len ∧ K (.c (.ptr j (o + n.toNat * ei.sz)))
        | none => False
      | _, _ => False
    | _, _ => False
  | .call { callee := .builtin .len, args, argTypes } => match args[0]?, argTypes[0]? with
    | some x, some ty => match tt ty, ev t x with
      | some ti, .c (.v (.slice _ n _)) => match ti.kind with
        | .slice _ => K (.c (.v (.int .i64 n)))
        | _ => False
      | some ti, .c (.v (.string s)) => match ti.kind with
        | .str => K (.c (.v (.int .i64 s.size)))
        | _ => False
      | some ti, .c (.ref i) => match ti.kind, nthR r i with
        | .slice _, .row _ _ xs => K (.c (.v (.int .i64 xs.length)))
        | .map _ _, .map _ _ es => K (.c (.v (.int .i64 es.length)))
        | _, _ => False
      | some ti, .c (.v (.map b)) => match ti.kind with
        | .map kt et => match tt kt, tt et with
          | some ki, some ei => ∃ l : List (ki.sh.T × ei.sh.T), MapRd S b ki.sh ei.sh l ∧ K (.c (.v (.int .i64 l.length)))
          | _, _ => False
        | _ => False
      | some ti, .c (.sl _ _ n _) => match ti.kind with
        | .slice _ => K (.c (.v (.int .i64 n)))
        | _ => False
      | some ti, .c (.seg _ _ n _) => match ti.kind with
        | .slice _ => K (.c (.v (.int .i64 n)))
        | _ => False
      | _, _ => False
    | _, _ => False
  | .entry x => match ev t x with
    | .c (.ptr i 0) => match nthR r i with
      | .iter k e m ents clock _ (some p) => iterOk S m ents clock ∧ K (.tup [(k.agg, k.cs p.1), (e.agg, e.cs p.2)])
      | .ext _ => ∃ (j : Nat) (k e : Shape) (mb clock : Nat) (l : List (Nat × k.T × e.T)) (seen : List Nat) (p : Nat × k.T × e.T), nthR r i = .ext (IterAt mb clock (seen ++ [p.1])) ∧ nthR r j = .ext (MapAt k e mb clock l) ∧ p ∈ l ∧ k.ok p.2.1 ∧ K (.tup [(k.agg, k.cs p.2.1), (e.agg, e.cs p.2.2)])
      | _ => False
    | _ => False
  | .makeFunc fn first captured => match valsOf t first.toList, valsOf t captured.toList with
    | some fs, some cs => K (.c (.v (.func fn fs.toArray cs.toArray)))
    | _, _ => match fn, first.toList, capsOf t captured.toList with
      | .func f, [], some caps => K (.c (.clo f caps))
      | _, _, _ => False
  | .slice ty x lo hi none => match tt ty, ev t x with
    | some ti, .c (.ref i) => match ti.kind, nthR r i with
      | .slice e, .row sh _ xs => match tt e with
        | some ei => if sh.n = ei.sz then boundK t lo 0 fun l => boundK t hi xs.length fun h => l ≤ h ∧ h ≤ xs.length ∧ K (.c (.seg i l (h - l) ei.sz)) else False
        | none => False
      | _, _ => False
    | some ti, .c (.v (.slice a len cap)) => match ti.kind with
      | .slice e => match tt e with
        | some ei => match lo with
         | none => boundK t hi len fun h => h ≤ cap ∧ K (.c (.v (.slice a h cap)))
         | some _ => boundK t lo 0 fun l => boundK t hi len fun h => l ≤ h ∧ h ≤ cap ∧ K (.c (.v (.slice (if cap = l then a else a.map fun p => addrAdd p (l * ei.sz)) (h - l) (cap - l))))
        | none => False
      | _ => False
    | some ti, .c (.v (.string s)) => match ti.kind with
      | .str => boundK t lo 0 fun l => boundK t hi s.size fun h => l ≤ h ∧ h ≤ s.size ∧ K (.c (.v (.string (s.extract l h))))
      | _ => False
    | some ti, .c (.ptr i o) => match ti.kind with
      | .array n e => match tt e with
        | some ei => boundK t lo 0 fun l => boundK t hi n fun h => l ≤ h ∧ h ≤ n ∧ l < n ∧ K (.c (.sl i (o + l * ei.sz) (h - l) (n - l)))
        | none => False
      | _ => False
    | _, _ => False
  | .index ty x i => match tt ty, ev t x, ev t i with
    | some ti, .c (.v (.string s)), .c (.v (.int _ n)) => match ti.kind with
      | .str => 0 ≤ n ∧ ∃ b, s[n.toNat]? = some b ∧ K (.c (.v (.int .u8 b.toNat)))
      | _ => False
    | some ti, .agg cs, .c (.v (.int _ n)) => match ti.kind with
      | .array m e => match tt e with
        | some ei => 0 ≤ n ∧ n < m ∧ ∃ x : ei.sh.T, (cs.drop (n.toNat * ei.sz)).take ei.sz = ei.sh.cs x ∧ K (ei.sh.sv x)
        | none => False
      | _ => False
    | _, _, _ => False
  | .call { callee := .builtin .max, args, .. } => match args.toList with
    | [x, y] => match ev t x, ev t y with
      | .c (.v (.int k a)), .c (.v (.int _ b)) => K (.c (.v (.int k (if b > a then b else a))))
      | _, _ => False
    | _ => False
  | .call { callee := .builtin .min, args, .. } => match args.toList with
    | [x, y] => match ev t x, ev t y with
      | .c (.v (.int k a)), .c (.v (.int _ b)) => K (.c (.v (.int k (if b < a then b else a))))
      | _, _ => False
    | _ => False
  | .slice ty x lo (some hi) (some mx) => match tt ty, ev t x with
    | some ti, .c (.v (.slice a _ cap)) => match ti.kind with
      | .slice e => match tt e with
        | some ei => boundK t lo 0 fun l => boundK t (some hi) 0 fun h => boundK t (some mx) 0 fun m => l ≤ h ∧ h ≤ m ∧ m ≤ cap ∧ K (.c (.v (.slice (if m = l then a else a.map fun p => addrAdd p (l * ei.sz)) (h - l) (m - l))))
        | none => False
      | _ => False
    | _, _ => False
  | _ => False

end Go.Vc

/- Verification conditions: operations that act on memory, regions, code. -/
import Derived.Test.YtapblcfbmaikjaaGreatDoorVcB
namespace Go.Vc
open Go

def vcCall (P : Program) (t : List SV) (r : List Res) (S : Store) (d : Option Tmp) (f : FuncId) (args : List Value) (K : SK) : Prop :=
  ∃ (A : Type) (out : A → SV) (Post : Store → A → Prop), Pure P f S args out Post ∧
    ∀ S' x, S.le S' → Post S' x → put t d (out x) fun t => K t r S'

/-- The same, of what is lent for the call: 'S' is the store with it; behind the call it is forgotten. -/
def vcCallB (P : Program) (S : Store) (f : FuncId) (args : List Value) (K : SV → Prop) : Prop :=
  ∃ (A : Type) (out : A → SV) (Post : Store → A → Prop), Pure P f S args out Post ∧ ∀ S' x, S.le S' → Post S' x → K (out x)

/-- The same; what the call has made the store knows behind it. -/
def vcCallL (P : Program) (t : List SV) (r : List Res) (S Sl : Store) (d : Option Tmp) (f : FuncId) (args : List Value) (K : SK) : Prop :=
  ∃ (A : Type) (out : A → SV) (Post : Store → A → Prop), Pure P f Sl args out Post ∧ ∀ S' x, Sl.le S' → Post S' x →
    ∀ S3 : Store, S.le S3 → (∀ b, (∀ i, Sl.c b i = none) ∧ Sl.o b = none → (∀ i, S3.c b i = S'.c b i) ∧ S3.o b = S'.o b) → put t d (out x) fun t => K t r S3

def evs (t : List SV) : List Operand → List SV
  | [] => []
  | x :: xs => ev t x :: evs t xs

/-- Behind a change of a row's handle nothing else names it. -/
def C.kill (i : Nat) : C → C
  | .ref j => if j = i then .junk else .ref j
  | .elt j k sz o => if j = i then .junk else .elt j k sz o
  | .seg j k n sz => if j = i then .junk else .seg j k n sz
  | x => x
def SV.kill (i : Nat) : SV → SV
  | .c x => .c (x.kill i)
  | .agg xs => .agg (xs.map (C.kill i))
  | .tup xs => .tup (xs.map fun p => (p.1, p.2.map (C.kill i)))
def Res.kill (i : Nat) : Res → Res
  | .box cs => .box (cs.map (C.kill i))
  | x => x
def killT (i : Nat) : List SV → (List SV → Prop) → Prop
  | [], k => k []
  | x :: xs, k => force (x.kill i) fun x => killT i xs fun xs => k (x :: xs)
def forceR (x : Res) (k : Res → Prop) : Prop := match x with
  | .gone => k .gone
  | .box cs => forceL cs fun cs => k (.box cs)
  | .row sh e xs => k (.row sh e xs)
  | .map a b es => k (.map a b es)
  | .iter a b m en cl l c => k (.iter a b m en cl l c)
  | .ext Q => k (.ext Q)
  | .pool sh e l => k (.pool sh e l)
def killR (i : Nat) : List Res → (List Res → Prop) → Prop
  | [], k => k []
  | x :: xs, k => forceR (x.kill i) fun x => killR i xs fun xs => k (x :: xs)

/-! A resource that nobody writes any more goes into the store; its handle is a plain value from then on. -/

def capH : List (Nat ⊕ Value) → Option Nat
  | [] => none
  | .inl i :: _ => some i
  | .inr _ :: cs => capH cs
/-- All that is captured is plain. -/
def caps1 : List (Nat ⊕ Value) → Option (List Value)
  | [] => some []
  | .inr u :: cs => match caps1 cs with
    | some vs => some (u :: vs)
    | none => none
  | .inl _ :: _ => none
def cloN (f : FuncId) (caps : List (Nat ⊕ Value)) : C := match caps1 caps with
  | some vs => .v (.func (.func f) #[] vs.toArray)
  | none => .clo f caps
def C.handle : C → Option Nat
  | .ref i => some i
  | .ptr i _ => some i
  | .sl i _ _ _ => some i
  | .elt i _ _ _ => some i
  | .seg i _ _ _ => some i
  | .clo _ cs => capH cs
  | _ => none

def firstH : List C → Option Nat
  | [] => none
  | x :: xs => match x.handle with
    | some i => some i
    | none => firstH xs
def firstHandle : SV → Option Nat
  | .c x => x.handle
  | .agg xs => firstH xs
  | .tup _ => none

/-- 'h' for the handle of resource i. -/
def C.sub (i : Nat) (h : Value) : C → C
  | .ref j => if j = i then .v h else .ref j
  | .ptr j o => if j = i then (match h with
    | .pointer (some ⟨b, _, _⟩) => .v (.pointer (some ⟨b, o, none⟩))
    | _ => .junk) else .ptr j o
  | .sl j o n m => if j = i then (match h with
    | .pointer (some ⟨b, _, _⟩) => .v (.slice (some ⟨b, o, none⟩) n m)
    | _ => .junk) else .sl j o n m
  | .elt j k sz o => if j = i then .junk else .elt j k sz o
  | .seg j k n sz => if j = i then (match h with
    | .slice p _ m => .v (.slice (if m = k then p else p.map fun p => addrAdd p (k * sz)) n (m - k))
    | _ => .junk) else .seg j k n sz
  | .clo f caps => cloN f (caps.map fun c => match c with
    | Sum.inl j => if j = i then (match h with
      | .pointer (some ⟨b, _, _⟩) => Sum.inr (.pointer (some ⟨b, 0, none⟩))
      | _ => Sum.inl j) else Sum.inl j
    | Sum.inr u => Sum.inr u)
  | x => x
def SV.sub (i : Nat) (h : Value) : SV → SV
  | .c x => .c (x.sub i h)
  | .agg xs => .agg (xs.map (C.sub i h))
  | .tup xs => .tup (xs.map fun p => (p.1, p.2.map (C.sub i h)))
def Res.sub (i : Nat) (h : Value) : Res → Res
  | .box cs => .box (cs.map (C.sub i h))
  | x => x
def subT (i : Nat) (h : Value) : List SV → (List SV → Prop) → Prop
  | [], k => k []
  | x :: xs, k => force (x.sub i h) fun x => subT i h xs fun xs => k (x :: xs)
def subR (i : Nat) (h : Value) : List Res → (List Res → Prop) → Prop
  | [], k => k []
  | x :: xs, k => forceR (x.sub i h) fun x => subR i h xs fun xs => k (x :: xs)

/-- The pool that rows of this element type go into. -/
def poolFor (e : TypeId) : List Res → Nat → Option Nat
  | [], _ => none
  | .pool _ e' _ :: r, n => if e' = e then some n else poolFor e r (n + 1)
  | _ :: r, n => poolFor e r (n + 1)

def frz (ok : Nat → Bool) (i : Nat) (K : SK) (t : List SV) (r : List Res) (S : Store) : Prop := if ok i = true then match nthR r i with
  | .row sh e xs => match poolFor e r 0 with
    | some j => if ok j = true then match nthR r j with
        | .pool sh' e' l => ∃ hs : sh = sh', ∀ (p : Option Addr) (c : Nat), PForm p xs.length c →
            subT i (.slice p xs.length c) t fun t => subR i (.slice p xs.length c) r fun r => setR r j (.pool sh' e' (l ++ [(.slice p xs.length c, hs ▸ xs)])) fun r => setR r i .gone fun r => K t r S
        | _ => False
      else False
    | none => ∀ (p : Option Addr) (c : Nat) (S' : Store), S.le S' → RowRd S' p sh xs → (PForm p xs.length c ∧ Fresh S p ∧ Whole S' p e (xs.flatMap sh.enc)) →
      subT i (.slice p xs.length c) t fun t => subR i (.slice p xs.length c) r fun r => setR r i .gone fun r => K t r S'
  | .pool sh _ l => ∀ S' : Store, S.le S' → (∀ p ∈ l, RowIs S' p.1 sh p.2) → setR r i .gone fun r => K t r S'
  | .map k e es => ∀ (b : Nat) (S' : Store), S.le S' → (MapRd S' (some b) k e es ∧ Fresh S (some ⟨b, 0, none⟩)) →
      subT i (.map (some b)) t fun t => subR i (.map (some b)) r fun r => setR r i .gone fun r => K t r S'
  | .box cs => match toVals cs with
    | some vs => ∀ (b : Nat) (S' : Store), S.le S' → (S'.rd b 0 vs ∧ Fresh S (some ⟨b, 0, none⟩)) →
      subT i (.pointer (some ⟨b, 0, none⟩)) t fun t => subR i (.pointer (some ⟨b, 0, none⟩)) r fun r => setR r i .gone fun r => K t r S'
    | none => False
  | _ => False
  else False

/-- Of a box that names others, those first. -/
def deep (r : List Res) : Nat → Nat → Nat
  | 0, i => i
  | n + 1, i => match nthR r i with
    | .box cs => match firstH cs with
      | some j => deep r n j
      | none => i
    | _ => i
/-- All handles in an operand. -/
def frzOp (ok : Nat → Bool) (x : Operand) : Nat → SK → SK
  | 0, K, t, r, S => K t r S
  | n + 1, K, t, r, S => match firstHandle (ev t x) with
    | none => K t r S
    | some i => frz ok (deep r 8 i) (frzOp ok x n K) t r S
def frzOps (ok : Nat → Bool) : List Operand → SK → SK
  | [], K, t, r, S => K t r S
  | x :: xs, K, t, r, S => frzOp ok x 24 (frzOps ok xs K) t r S
def frzL : List Nat → SK → SK
  | [], K, t, r, S => K t r S
  | i :: is, K, t, r, S => frz (fun _ => true) i (frzL is K) t r S

def frzLo (ok : Nat → Bool) : List Nat → SK → SK
  | [], K, t, r, S => K t r S
  | i :: is, K, t, r, S => frz ok i (frzLo ok is K) t r S

/-- What the pools from 'lo' on hold goes into the store. -/
def frzPools (lo : Nat) (K : List Res → Store → Prop) : List Res → Nat → List Res → Store → Prop
  | [], _, r, S => K r S
  | x :: rest, i, r, S => match x with
    | .pool sh _ l => match Nat.blt i lo with
      | true => frzPools lo K rest (i + 1) r S
      | false => ∀ S' : Store, S.le S' → (∀ p ∈ l, RowIs S' p.1 sh p.2) → setR r i .gone fun r => frzPools lo K rest (i + 1) r S'
    | _ => frzPools lo K rest (i + 1) r S

/-! A call that is handed boxes and maps which it may turn: 'idx' says which of the caller's; inside they are numbered anew. -/

def posOf (i : Nat) : List Nat → Nat → Option Nat
  | [], _ => none
  | j :: js, n => if i = j then some n else posOf i js (n + 1)
def renCaps (idx : List Nat) : List (Nat ⊕ Value) → Option (List (Nat ⊕ Value))
  | [] => some []
  | .inl i :: cs => match posOf i idx 0, renCaps idx cs with
    | some p, some ds => some (.inl p :: ds)
    | _, _ => none
  | .inr v :: cs => match renCaps idx cs with
    | some ds => some (.inr v :: ds)
    | none => none
def C.ren (idx : List Nat) : C → C
  | .ref i => match posOf i idx 0 with
    | some p => .ref p
    | none => .junk
  | .ptr i o => match posOf i idx 0 with
    | some p => .ptr p o
    | none => .junk
  | .sl i o n m => match posOf i idx 0 with
    | some p => .sl p o n m
    | none => .junk
  | .clo f cs => match renCaps idx cs with
    | some ds => .clo f ds
    | none => .junk
  | .v x => .v x
  | _ => .junk
def SV.ren (idx : List Nat) : SV → SV
  | .c x => .c (x.ren idx)
  | .agg xs => .agg (xs.map (C.ren idx))
  | .tup _ => .c .junk
def Res.ren (idx : List Nat) : Res → Res
  | .box cs => .box (cs.map (C.ren idx))
  | x => x
/-- Back into the caller's numbers. -/
def C.back (idx : List Nat) : C → C
  | .ref p => match idx[p]? with
    | some i => .ref i
    | none => .junk
  | .ptr p o => match idx[p]? with
    | some i => .ptr i o
    | none => .junk
  | .sl p o n m => match idx[p]? with
    | some i => .sl i o n m
    | none => .junk
  | .v x => .v x
  | _ => .junk
def SV.back (idx : List Nat) : SV → SV
  | .c x => .c (x.back idx)
  | .agg xs => .agg (xs.map (C.back idx))
  | .tup xs => .tup (xs.map fun p => (p.1, p.2.map (C.back idx)))
def Res.back (idx : List Nat) : Res → Res
  | .box cs => .box (cs.map (C.back idx))
  | x => x
def insOf (idx : List Nat) (r : List Res) : List Res := idx.map fun i => (nthR r i).ren idx
def putBackK (idx : List Nat) : List Nat → List Res → List Res → (List Res → Prop) → Prop
  | [], _, r, k => k r
  | i :: is, x :: xs, r, k => forceR (x.back idx) fun x => setR r i x fun r => putBackK idx is xs r k
  | _ :: _, [], r, k => k r
def nodupB : List Nat → Bool
  | [] => true
  | i :: is => !(is.contains i) && nodupB is
def idxOk (ok : Nat → Bool) (idx : List Nat) (r : List Res) : Bool := nodupB idx && idx.all fun i => ok i && (nthR r i).alive

/-- Behind a call that may turn rows nothing else names them. -/
def isIn (i : Nat) : List Nat → Bool
  | [] => false
  | j :: js => if i = j then true else isIn i js
def C.kills (l : List Nat) : C → C
  | .ref j => if isIn j l = true then .junk else .ref j
  | .elt j k sz o => if isIn j l = true then .junk else .elt j k sz o
  | .seg j k n sz => if isIn j l = true then .junk else .seg j k n sz
  | x => x
def SV.kills (l : List Nat) : SV → SV
  | .c x => .c (x.kills l)
  | .agg xs => .agg (xs.map (C.kills l))
  | .tup xs => .tup (xs.map fun p => (p.1, p.2.map (C.kills l)))
def Res.kills (l : List Nat) : Res → Res
  | .box cs => .box (cs.map (C.kills l))
  | x => x
def killsT (l : List Nat) : List SV → (List SV → Prop) → Prop
  | [], k => k []
  | x :: xs, k => force (x.kills l) fun x => killsT l xs fun xs => k (x :: xs)
def killsR (l : List Nat) : List Res → (List Res → Prop) → Prop
  | [], k => k []
  | x :: xs, k => forceR (x.kills l) fun x => killsR l xs fun xs => k (x :: xs)
def rowsIn (r : List Res) : List Nat → List Nat
  | [] => []
  | i :: is => match nthR r i with
    | .row _ _ _ => i :: rowsIn r is
    | _ => rowsIn r is

def vcCallR (P : Program) (ok : Nat → Bool) (t : List SV) (r : List Res) (S : Store) (d : Option Tmp) (f : FuncId) (args : List SV) (K : SK) : Prop :=
  ∃ (idx : List Nat) (A : Type) (out : A → SV) (outs : A → List Res) (Post : Store → A → Prop), idxOk ok idx r = true ∧ SpecR P f S (insOf idx r) (args.map (SV.ren idx)) out outs Post ∧
    ∀ S' x, S.le S' → Post S' x → killsT (rowsIn r idx) t fun t => killsR (rowsIn r idx) r fun r => putBackK idx idx (outs x) r fun r => put t d ((out x).back idx) fun t => K t r S'

/-- Numbers moved up. -/
def C.shift (n : Nat) : C → C
  | .ref i => .ref (i + n)
  | .ptr i o => .ptr (i + n) o
  | .sl i o k m => .sl (i + n) o k m
  | .elt i k sz o => .elt (i + n) k sz o
  | .seg i k m sz => .seg (i + n) k m sz
  | .clo f cs => .clo f (cs.map fun c => match c with
    | Sum.inl i => Sum.inl (i + n)
    | Sum.inr u => Sum.inr u)
  | x => x
def SV.shift (n : Nat) : SV → SV
  | .c x => .c (x.shift n)
  | .agg xs => .agg (xs.map (C.shift n))
  | .tup xs => .tup (xs.map fun p => (p.1, p.2.map (C.shift n)))
def Res.shift (n : Nat) : Res → Res
  | .box cs => .box (cs.map (C.shift n))
  | x => x
def appR : List Res → List Res → (List Res → Prop) → Prop
  | r, [], k => k r
  | r, x :: xs, k => forceR x fun x => snocK r x fun r => appR r xs k

/-- A call that hands back something new, which is the caller's own. -/
def vcCallN (P : Program) (t : List SV) (r : List Res) (S : Store) (d : Option Tmp) (f : FuncId) (args : List Value) (K : SK) : Prop :=
  ∃ (A : Type) (out : A → SV) (news : A → List Res) (Post : Store → A → Prop), SpecN P f S args out news Post ∧
    ∀ S' x, S.le S' → Post S' x → lenK r fun n => appR r ((news x).map (Res.shift n)) fun r => put t d ((out x).shift n) fun t => K t r S'

def vcCallK (P : Program) (ok : Nat → Bool) (t : List SV) (r : List Res) (S : Store) (d : Option Tmp) (f : FuncId) (args : List SV) (K : SK) : Prop :=
  ∃ (idx : List Nat) (A : Type) (out : A → SV) (outs : A → List Res) (Post : Store → A → Prop), idxOk ok idx r = true ∧ SpecK P f S (insOf idx r) (args.map (SV.ren idx)) out outs Post ∧
    ∀ S' x, S.le S' → Post S' x → killsT [] t fun t => killsR [] r fun r => putBackK idx idx (outs x) r fun r => put t d (out x) fun t => K t r S'

/-- Arguments as symbolic values. -/
def svOf : Value → SV
  | .agg cs => .agg (cs.toList.map .v)
  | v => .c (.v v)
def argOk : Value → Bool
  | .agg cs => cs.toList.all fun v => v.oneCell'
  | v => v.oneCell'

/-- A function that a call may enter. -/
def Enters (P : Program) (f : FuncId) : Prop := ∃ fn, P.funcs[f]? = some fn ∧ (fn.name == "runtime.NumGoroutine") = false ∧ fn.body.isNone = false

/-- A call: of a function that only reads, all handles made plain ahead of it; or of one that is handed boxes and maps. -/
def vcCalls (P : Program) (ok : Nat → Bool) (t : List SV) (r : List Res) (S : Store) (d : Option Tmp) (f : FuncId) (first : List Value) (args : List Operand) (caps : List SV) (K : SK) : Prop :=
  Enters P f ∧ ((frzOps ok args (fun t r S => match valsOf t args, capVals caps with
    | some vs, some cs => vcCall P t r S d f (first ++ vs ++ cs) K
    | _, _ => False) t r S) ∨ vcCallR P ok t r S d f (first.map svOf ++ evs t args ++ caps) K ∨
    frzOps (fun _ => true) args (fun t' r' S' => match valsOf t' args, capVals caps with
    | some vs, some cs => frzPools 0 (fun _ S' => vcCallB P S' f (first ++ vs ++ cs) (fun x => put t d x fun t => K t r S)) r' 0 r' S'
    | _, _ => False) t r S ∨ vcCallK P ok t r S d f (first.map svOf ++ evs t args ++ caps) K ∨
    (frzOps ok args (fun t r S => match valsOf t args, capVals caps with
    | some vs, some cs => vcCallN P t r S d f (first ++ vs ++ cs) K
    | _, _ => False) t r S ∨
    ((∃ fz : List Nat, frzLo ok fz (fun t r S => vcCallR P ok t r S d f (first.map svOf ++ evs t args ++ caps) K) t r S) ∨
    frzOps (fun _ => true) args (fun t' r' S' => match valsOf t' args, capVals caps with
    | some vs, some cs => frzPools 0 (fun _ S' => vcCallL P t r S S' d f (first ++ vs ++ cs) K) r' 0 r' S'
    | _, _ => False) t r S)))
where
  capVals : List SV → Option (List Value)
    | [] => some []
    | .c (.v x) :: xs => match capVals xs with
      | some ys => some (x :: ys)
      | none => none
    | _ :: _ => none

/-- The elements of a slice that is appended, as data. -/
def srcIs (r : List Res) (S : Store) (sh : Shape) (x : SV) (ys : List sh.T) : Prop := match x with
  | .c (.sl j o n _) => match nthR r j with
    | .box cs => cut cs o (n * sh.n) = ys.flatMap sh.cs ∧ n = ys.length ∧ o + n * sh.n ≤ cs.length
    | _ => False
  | .c (.v (.slice p n _)) => n = ys.length ∧ (n = 0 ∨ Lk r S fun S => ∃ b o, p = some ⟨b, o, none⟩ ∧ S.rd b o (ys.flatMap sh.enc))
  | .c (.ref j) => match nthR r j with
    | .row sh' _ xs => ∃ e : sh' = sh, e ▸ xs = ys
    | _ => False
  | .c (.seg j lo n sz) => match nthR r j with
    | .row sh' _ xs => sz = sh'.n ∧ ∃ e : sh' = sh, ((e ▸ xs : List sh.T).drop lo).take n = ys
    | _ => False
  | _ => False

/-- A string's bytes as numbers. -/
def strInts (s : ByteArray) : List Int := s.data.toList.map fun b => (b.toNat : Int)
/-- A string that is appended onto a row of bytes in a pool. -/
def poolStr (ok : Nat → Bool) (e : Nat) (j : Nat) (u : Value) (s : ByteArray) (d : Option Tmp) (K : SK) (t : List SV) (r : List Res) (S : Store) : Prop := match nthR r j with
  | .pool (.int .u8) e' l => (e' = e ∧ ok j = true) ∧ ∃ (pre post : List (Value × List Int)) (p : Option Addr) (c : Nat) (xs : List Int), u = .slice p xs.length c ∧
      (l = pre ++ (.slice p xs.length c, xs) :: post ∨ ((p = none ∧ xs = [] ∧ c = 0) ∧ l = pre ++ post)) ∧ xs.length + s.size ≤ 140737488355328 ∧
      ∀ (p' : Option Addr) (c' : Nat), PForm p' (xs.length + s.size) c' → put t d (.c (.v (.slice p' (xs.length + s.size) c'))) fun t => setR r j (.pool (.int .u8) e' (pre ++ (.slice p' (xs.length + s.size) c', xs ++ strInts s) :: post)) fun r => K t r S
  | _ => False
/-- Bytes of one cell each. -/
def isByte (ti : TI) : Bool := match ti.kind, ti.zero with
  | .int .u8, [.v (.int .u8 0)] => decide (ti.bytes = 1)
  | _, _ => false

/-- Do the slice's elements hold slices or maps? Then handles are made plain ahead of it. -/
def plainSh : Shape → Bool
  | .slice => true
  | .map => true
  | .pair a b => plainSh a || plainSh b
  | .st a => plainSh a
  | _ => false
def plainEl (tt : Nat → Option TI) (ty : Nat) : Bool := match tt ty with
  | some ti => match ti.kind with
    | .slice e => match tt e with
      | some ei => plainSh ei.sh
      | none => false
    | _ => false
  | none => false
/-- A slice of pointers. -/
def ptrEl (tt : Nat → Option TI) (ty : Nat) : Bool := match tt ty with
  | some ti => match ti.kind with
    | .slice e => match tt e with
      | some ei => match ei.kind with
        | .ptr _ => true
        | _ => false
      | none => false
    | _ => false
  | none => false
/-- An own box of plain cells gets a name. -/
def nameK (ok : Nat → Bool) (i : Nat) (K : SK) (t : List SV) (r : List Res) (S : Store) : Prop := if ok i = true then match nthR r i with
  | .box cs => match toVals cs with
    | some vs => ∀ b : Nat, subT i (.pointer (some ⟨b, 0, none⟩)) t fun t => subR i (.pointer (some ⟨b, 0, none⟩)) r fun r => setR r i (.ext (BoxAt b vs none)) fun r => K t r S
    | none => K t r S
  | .map k e es => ∀ mb : Nat, subT i (.map (some mb)) t fun t => subR i (.map (some mb)) r fun r => setR r i (.ext (MapN k e mb es)) fun r => K t r S
  | _ => K t r S
  else K t r S
def nameOps (ok : Nat → Bool) : List Operand → SK → SK
  | [], K, t, r, S => K t r S
  | x :: xs, K, t, r, S => match ev t x with
    | .c (.ptr i _) => nameK ok i (nameOps ok xs K) t r S
    | _ => nameOps ok xs K t r S
def isElt : SV → Bool
  | .c (.elt _ _ _ _) => true
  | _ => false

def buildSliceK (tt : Nat → Option TI) (t : List SV) (r : List Res) (S : Store) (d : Option Tmp) (ty n : Nat) (parts : Array (Nat × Operand)) (K : SK) : Prop :=
  match tt ty with
    | some ti => match ti.kind with
      | .slice e => match tt e with
        | some ei => if n * ei.sz ≤ 16777216 ∧ n ≤ 16777216 then buildK tt ((List.range n).map fun i => (i * ei.sz, e)) t (fun x => match x with
            | .agg cs => match ei.sh.decs n cs with
              | some xs => lenK r fun j => put t d (.c (.ref j)) fun t => snocK r (.row ei.sh e xs) fun r => K t r S
              | none => lenK r fun j => put t d (.c (.sl j 0 n n)) fun t => snocK r (.box cs) fun r => K t r S
            | _ => False) (List.replicate n ei.zero).flatten parts.toList else False
        | none => False
      | _ => False
    | none => False

/-- A slice of zero values. -/
def makeSliceK (tt : Nat → Option TI) (t : List SV) (r : List Res) (S : Store) (d : Option Tmp) (ty : Nat) (ln cp : Operand) (K : SK) : Prop :=
  match tt ty, ev t ln, ev t cp with
    | some ti, .c (.v (.int _ n)), .c (.v (.int _ c)) => match ti.kind with
      | .slice e => match tt e with
        | some ei => match ei.sh.decs 1 ei.zero with
          | some [z] => 0 ≤ n ∧ n ≤ c ∧ (ei.bytes : Int) * c ≤ 140737488355328 ∧ c ≤ 140737488355328 ∧ lenK r fun j => put t d (.c (.ref j)) fun t => snocK r (.row ei.sh e (List.replicate n.toNat z)) fun r => K t r S
          | _ => False
        | none => False
      | _ => False
    | _, _, _ => False

def storeK (tt : Nat → Option TI) (ok : Nat → Bool) (t : List SV) (r : List Res) (S : Store) (d : Option Tmp) (ty : Nat) (a x : Operand) (K : SK) : Prop :=
  match tt ty, ev t a, cellsOf (ev t x) with
    | some ti, .c (.ptr i o), some ys => if ti.sz = ys.length ∧ ok i = true then match nthR r i with
      | .box cs => if o + ys.length ≤ cs.length then forceL (putCells cs o ys) fun cs => put t d (.tup []) fun t => setR r i (.box cs) fun r => K t r S else False
      | _ => False else False
    | some ti, .c (.elt i k sz o), some ys => if ti.sz = ys.length ∧ ok i = true then match nthR r i with
      | .row sh e xs => if sh.n = sz then ∃ x y : sh.T, xs[k]? = some x ∧ sh.ok y ∧ sh.cs y = putCells (sh.cs x) o ys ∧ o + ys.length ≤ sh.n ∧ put t d (.tup []) fun t => setR r i (.row sh e (xs.set k y)) fun r => K t r S else False
      | _ => False else False
    | some ti, .c (.v (.pointer (some ⟨b, o, none⟩))), some ys => match toVals ys with
      | some us => if ti.sz = ys.length then ∃ i vs q, ok i = true ∧ nthR r i = .ext (BoxAt b vs q) ∧ o + us.length ≤ vs.length ∧ put t d (.tup []) fun t => setR r i (.ext (BoxAt b (vs.take o ++ us ++ vs.drop (o + us.length)) q)) fun r => K t r S else False
      | none => False
    | _, _, _ => False

def mapPutK (tt : Nat → Option TI) (ok : Nat → Bool) (d : Option Tmp) (ty : Nat) (m k x : Operand) (K : SK) (t : List SV) (r : List Res) (S : Store) : Prop := match tt ty with
    | some ti => match ti.kind with
      | .map kt _ => match tt kt, ev t m with
        | some ki, .c (.ref i) => match nthR r i with
          | .map ks es l => if keyOk tt ki ks = true ∧ ok i = true then ∃ (kk : ks.T) (vv : es.T), ev t k = ks.sv kk ∧ ev t x = es.sv vv ∧ es.ok vv ∧ put t d (.tup []) fun t => setR r i (.map ks es (mset ks l kk vv)) fun r => K t r S else False
          | .ext _ => ∃ (ks es : Shape) (mb clock : Nat) (l : List (Nat × ks.T × es.T)) (kk : ks.T) (vv : es.T), nthR r i = .ext (MapAt ks es mb clock l) ∧ (keyOk tt ki ks = true ∧ ok i = true) ∧ ev t k = ks.sv kk ∧ ev t x = es.sv vv ∧ es.ok vv ∧ (mget ks (l.map (·.2)) kk).isSome = true ∧
              put t d (.tup []) fun t => setR r i (.ext (MapAt ks es mb clock (msetB ks l kk vv))) fun r => K t r S
          | _ => False
        | some ki, .c (.v (.map (some mb))) => ∃ (i : Nat) (ks es : Shape) (l : List (ks.T × es.T)) (kk : ks.T) (vv : es.T), nthR r i = .ext (MapN ks es mb l) ∧ (keyOk tt ki ks = true ∧ ok i = true) ∧ ev t k = ks.sv kk ∧ ev t x = es.sv vv ∧ es.ok vv ∧
            put t d (.tup []) fun t => setR r i (.ext (MapN ks es mb (mset ks l kk vv))) fun r => K t r S
        | _, _ => False
      | _ => False
    | none => False

/-- All entries go. -/
def mapClrK (tt : Nat → Option TI) (ok : Nat → Bool) (d : Option Tmp) (args : List Operand) (tys : List TypeId) (K : SK) (t : List SV) (r : List Res) (S : Store) : Prop := match args, tys with
    | [m], ty :: _ => match tt ty with
      | some ti => match ti.kind with
        | .map _ _ => match ev t m with
          | .c (.ref i) => match nthR r i with
            | .map ks es _ => if ok i = true then put t d (.tup []) fun t => setR r i (.map ks es []) fun r => K t r S else False
            | _ => False
          | .c (.v (.map (some mb))) => ∃ (i : Nat) (ks es : Shape) (l : List (ks.T × es.T)), nthR r i = .ext (MapN ks es mb l) ∧ ok i = true ∧ put t d (.tup []) fun t => setR r i (.ext (MapN ks es mb [])) fun r => K t r S
          | _ => False
        | _ => False
      | none => False
    | _, _ => False

/-- An entry goes. -/
def mapDelK (tt : Nat → Option TI) (ok : Nat → Bool) (d : Option Tmp) (args : List Operand) (tys : List TypeId) (K : SK) (t : List SV) (r : List Res) (S : Store) : Prop := match args, tys with
    | [m, k], ty :: _ => match tt ty with
      | some ti => match ti.kind with
        | .map kt _ => match tt kt, ev t m with
          | some ki, .c (.ref i) => match nthR r i with
            | .map ks es l => if keyOk tt ki ks = true ∧ ok i = true then ∃ kk : ks.T, ev t k = ks.sv kk ∧ put t d (.tup []) fun t => setR r i (.map ks es (mdel ks l kk)) fun r => K t r S else False
            | .ext _ => ∃ (ks es : Shape) (mb clock : Nat) (l : List (Nat × ks.T × es.T)) (kk : ks.T), nthR r i = .ext (MapAt ks es mb clock l) ∧ (keyOk tt ki ks = true ∧ ok i = true) ∧ ev t k = ks.sv kk ∧
                put t d (.tup []) fun t => setR r i (.ext (MapAt ks es mb clock (mdelB ks l kk))) fun r => K t r S
            | _ => False
          | some ki, .c (.v (.map (some mb))) => ∃ (i : Nat) (ks es : Shape) (l : List (ks.T × es.T)) (kk : ks.T), nthR r i = .ext (MapN ks es mb l) ∧ (keyOk tt ki ks = true ∧ ok i = true) ∧ ev t k = ks.sv kk ∧
              put t d (.tup []) fun t => setR r i (.ext (MapN ks es mb (mdel ks l kk))) fun r => K t r S
          | some ki, .c (.v (.map none)) => ∃ (ks : Shape) (kk : ks.T), keyOk tt ki ks = true ∧ ev t k = ks.sv kk ∧ put t d (.tup []) fun t => K t r S
          | _, _ => False
        | _ => False
      | none => False
    | _, _ => False

/-- A type assertion: is the asserted type an interface, and does it hold? -/
def asserts (P : Program) (asserted T : TypeId) : Option (Bool × Bool) := match P.underlying asserted with
  | some (.interface want) => match P.info? T with
    | some i => some (true, want.toList.all fun (name, sig) => i.methods.any fun m => m.name == name && m.sig == sig)
    | none => none
  | some _ => some (false, decide (T = asserted))
  | none => none
def compOf : Value → Bool × List C
  | .agg cs => (true, cs.toList.map .v)
  | v => (false, [.v v])
/-- The method of an interface value. -/
def Meth (P : Program) (T : TypeId) (v : Value) (name : String) (f : FuncId) (rv : Value) : Prop := ∀ w : World, (method (P.types.size + Made.depth) T v name).run P w = .ok (f, rv) w
def MethV (P : Program) (T : TypeId) (v : Value) (name : String) (u : Value) : Prop := ∀ w : World, (callMethod (.iface T v) name #[]).run P w = .ok (.value u) w
def assertK (P : Program) (tt : Nat → Option TI) (t : List SV) (r : List Res) (S : Store) (d : Option Tmp) (x : Operand) (asserted : Nat) (K : SK) : Prop := match ev t x with
  | .c (.v (.iface T v)) => ∃ res, asserts P asserted T = some res ∧ (match res with
    | (true, true) => put t d (.tup [(false, [.v (.iface T v)]), (false, [.v (.bool true)])]) fun t => K t r S
    | (false, true) => argOk v = true ∧ put t d (.tup [compOf v, (false, [.v (.bool true)])]) fun t => K t r S
    | (_, false) => match tt asserted with
      | some ti => put t d (.tup [(ti.sh.agg, ti.zero), (false, [.v (.bool false)])]) fun t => K t r S
      | none => False)
  | _ => False

/-- A slice that the store knows is copied over an own row of one-cell elements that is as long. -/
def copyK (tt : Nat → Option TI) (ok : Nat → Bool) (d : Option Tmp) (args : List Operand) (tys : List TypeId) (K : SK) (t : List SV) (r : List Res) (S : Store) : Prop := match args, tys with
  | [x, s], [ty, _] => match tt ty, ev t x, ev t s with
    | some ti, .c (.ref i), .c (.v (.slice p n _)) => match ti.kind, nthR r i with
      | .slice e, .row sh e' xs => match tt e with
        | some ei => if (sh.n = ei.sz ∧ ei.sz = 1) ∧ ok i = true then ∃ ys : List sh.T, RowRd S p sh ys ∧ ys.length = n ∧ ys.length = xs.length ∧ 0 < n ∧ put t d (.c (.v (.int .i64 n))) fun t => setR r i (.row sh e' ys) fun r => K t r S else False
        | none => False
      | _, _ => False
    | _, _, _ => False
  | _, _ => False

/-- An operation that acts on memory. -/
def vcE (P : Program) (tt : Nat → Option TI) (ok : Nat → Bool) (t : List SV) (r : List Res) (S : Store) (d : Option Tmp) (op : Op) (K : SK) : Prop := match op with
  | .alloc ty => match tt ty with
    | some ti => match ti.named with
      | true => match toVals ti.zero with
        | some vs => ∀ b : Nat, put t d (.c (.v (.pointer (some ⟨b, 0, none⟩)))) fun t => snocK r (.ext (BoxAt b vs (some ty))) fun r => K t r S
        | none => False
      | false => lenK r fun n => put t d (.c (.ptr n 0)) fun t => snocK r (.box ti.zero) fun r => K t r S
    | none => False
  | .box ty x => match tt ty, cellsOf (ev t x) with
    | some ti, some cs => if ti.sz = cs.length then lenK r fun n => put t d (.c (.ptr n 0)) fun t => snocK r (.box cs) fun r => K t r S else False
    | _, _ => False
  | .buildSlice ty n parts => match plainEl tt ty with
    | true => frzOps ok (parts.toList.map (·.2)) (fun t r S => buildSliceK tt t r S d ty n parts K) t r S
    | false => match ptrEl tt ty with
      | true => nameOps ok (parts.toList.map (·.2)) (fun t r S => buildSliceK tt t r S d ty n parts K) t r S
      | false => buildSliceK tt t r S d ty n parts K
  | .store ty a x => match isElt (ev t a) with
    | true => frzOp ok x 24 (fun t r S => storeK tt ok t r S d ty a x K) t r S
    | false => storeK tt ok t r S d ty a x K
  | .makeSlice ty ln cp => makeSliceK tt t r S d ty ln cp K
  | .makeMap ty none => match tt ty with
    | some ti => match ti.kind with
      | .map kt et => match tt kt, tt et with
        | some ki, some ei => lenK r fun n => put t d (.c (.ref n)) fun t => snocK r (.map ki.sh ei.sh []) fun r => K t r S
        | _, _ => False
      | _ => False
    | none => False
  | .insert ty m k x => frzOp ok x 24 (mapPutK tt ok d ty m k x K) t r S
  | .mapUpdate ty m k x => frzOp ok x 24 (mapPutK tt ok d ty m k x K) t r S
  | .call { callee := .builtin .append, args, argTypes } => match args.toList, argTypes.toList with
    | [s, x], [ty, ty'] => if ty = ty' then match tt ty with
      | some ti => match ti.kind with
        | .slice e => match tt e with
          | some ei => if 0 < ei.bytes ∧ 0 < ei.sz then match ev t s with
            | .c (.v u) => (u = .slice none 0 0 ∧ ∃ ys : List ei.sh.T, srcIs r S ei.sh (ev t x) ys ∧ (∀ y ∈ ys, ei.sh.ok y) ∧ ys.length * ei.bytes ≤ 140737488355328 ∧
                lenK r fun n => put t d (.c (.ref n)) fun t => snocK r (.row ei.sh e ys) fun r => K t r S) ∨
                (∃ j, poolApp e ei j u (ev t x)) ∨
                (∃ (ad : Addr) (n c : Nat) (xs ys : List ei.sh.T), u = .slice (some ad) n c ∧ xs.length = n ∧ n ≤ c ∧ c < n + ys.length ∧ RowRd S (some ad) ei.sh xs ∧ srcIs r S ei.sh (ev t x) ys ∧ (∀ y ∈ ys, ei.sh.ok y) ∧ (n + ys.length) * ei.bytes ≤ 140737488355328 ∧
                  lenK r fun m => put t d (.c (.ref m)) fun t => snocK r (.row ei.sh e (xs ++ ys)) fun r => K t r S) ∨
                (∃ (p : Option Addr) (n c : Nat), u = .slice p n c ∧ n ≤ c ∧ srcIs r S ei.sh (ev t x) [] ∧ put t d (.c (.v u)) fun t => K t r S)
            | .c (.ref i) => match nthR r i with
              | .row sh e' xs => if sh.n = ei.sz ∧ e' = e then ∃ ys : List sh.T, srcIs r S sh (ev t x) ys ∧ (∀ y ∈ ys, sh.ok y) ∧ (xs.length + ys.length) * ei.bytes ≤ 140737488355328 ∧
                  killT i t fun t => put t d (.c (.ref i)) fun t => killR i r fun r => setR r i (.row sh e' (xs ++ ys)) fun r => K t r S else False
              | _ => False
            | .c (.seg i lo n sz) => match nthR r i, lo with
              | .row sh e' xs, 0 => if (sh.n = ei.sz ∧ e' = e ∧ sz = sh.n) ∧ ok i = true then ∃ ys : List sh.T, srcIs r S sh (ev t x) ys ∧ (∀ y ∈ ys, sh.ok y) ∧ n ≤ xs.length ∧ (n + ys.length) * ei.bytes ≤ 140737488355328 ∧
                  killT i t fun t => put t d (.c (.ref i)) fun t => killR i r fun r => setR r i (.row sh e' (xs.take n ++ ys)) fun r => K t r S else False
              | _, _ => False
            | _ => False else False
          | none => False
        | _ => False
      | none => False else (match tt ty, tt ty' with
        | some ti, some xi => match ti.kind, xi.kind with
          | .slice e, .str => match tt e with
            | some ei => match isByte ei, ev t s, ev t x with
              | true, .c (.v u), .c (.v (.string z)) => ∃ j, poolStr ok e j u z d K t r S
              | _, _, _ => False
            | none => False
          | _, _ => False
        | _, _ => False)
    | _, _ => False
  | .call { callee := .builtin .delete, args, argTypes } => mapDelK tt ok d args.toList argTypes.toList K t r S
  | .call { callee := .builtin .clear, args, argTypes } => mapClrK tt ok d args.toList argTypes.toList K t r S
  | .call { callee := .builtin .copy, args, argTypes } => copyK tt ok d args.toList argTypes.toList K t r S
  | .call { callee := .value (.func f), args, .. } => vcCalls P ok t r S d f [] args.toList [] K
  | .call { callee := .value f, args, .. } => match ev t f with
    | .c (.v u) => ∃ g first caps, u = .func (.func g) first caps ∧ (first.toList.all argOk) = true ∧ (∀ v ∈ caps, v.oneCell' = true) ∧ vcCalls P ok t r S d g first.toList args.toList (caps.toList.map fun x => .c (.v x)) K
    | .c (.clo g caps) => vcCalls P ok t r S d g [] args.toList (caps.map fun c => match c with
      | Sum.inl i => .c (.ptr i 0)
      | Sum.inr x => .c (.v x)) K
    | _ => False
  | .call { callee := .invoke x name, args, .. } => match ev t x with
    | .c (.v (.iface T v)) => (∃ f rv, Meth P T v name f rv ∧ argOk rv = true ∧ vcCalls P ok t r S d f [rv] args.toList [] K) ∨
        (∃ u, MethV P T v name u ∧ args = #[] ∧ u.oneCell' = true ∧ put t d (.c (.v u)) fun t => K t r S)
    | _ => False
  | .typeAssert x _ asserted true => assertK P tt t r S d x asserted K
  | .range ty x => match tt ty, ev t x with
    | some ti, .c (.v (.map b)) => match ti.kind with
      | .map kt et => match tt kt, tt et with
        | some ki, some ei => if keyFits ki.kind ki.sh = true then ∃ (ents : Array MapEntry) (clock : Nat) (l : List (ki.sh.T × ei.sh.T)), iterIs S b ki.sh ei.sh ents clock l ∧
            lenK r fun n => put t d (.c (.ptr n 0)) fun t => snocK r (.iter ki.sh ei.sh b ents clock l none) fun r => K t r S else False
        | _, _ => False
      | _ => False
    | some ti, .c (.ref i) => match ti.kind, nthR r i with
      | .map _ _, .map k e es => if ok i = true then ∀ (mb clock : Nat) (l : List (Nat × k.T × e.T)), l.map (·.2) = es → (l.map (·.1)).Nodup →
          lenK r fun n => put t d (.c (.ptr n 0)) fun t => setR r i (.ext (MapAt k e mb clock l)) fun r => snocK r (.ext (IterAt mb clock [])) fun r => K t r S else False
      | _, _ => False
    | _, _ => False
  | .next x false => match ev t x with
    | .c (.ptr i 0) => match nthR r i with
      | .iter k e m ents clock left _ => iterOk S m ents clock ∧
          (left = [] → put t d (.tup [(false, [.v (.bool false)])]) fun t => K t r S) ∧
          ∀ (pre : List (k.T × e.T)) (p : k.T × e.T) (post : List (k.T × e.T)), left = pre ++ p :: post → put t d (.tup [(false, [.v (.bool true)]), (k.agg, k.cs p.1), (e.agg, e.cs p.2)]) fun t => setR r i (.iter k e m ents clock (pre ++ post) (some p)) fun r => K t r S
      | .ext _ => ∃ (j : Nat) (k e : Shape) (mb clock : Nat) (l : List (Nat × k.T × e.T)) (seen : List Nat), nthR r i = .ext (IterAt mb clock seen) ∧ nthR r j = .ext (MapAt k e mb clock l) ∧ ok j = true ∧ (∀ p ∈ l, k.ok p.2.1) ∧
          ((∀ p ∈ l, p.1 ∈ seen) → put t d (.tup [(false, [.v (.bool false)])]) fun t => setR r j (.map k e (l.map (·.2))) fun r => K t r S) ∧
          ∀ p ∈ l, p.1 ∉ seen → put t d (.tup [(false, [.v (.bool true)]), (k.agg, k.cs p.2.1), (e.agg, e.cs p.2.2)]) fun t => setR r i (.ext (IterAt mb clock (seen ++ [p.1]))) fun r => K t r S
      | _ => False
    | _ => False
  | _ => False
where
  /-- Onto a row of a pool, or onto nil, which makes a new one there. -/
  poolApp (e : Nat) (ei : TI) (j : Nat) (u : Value) (x : SV) : Prop := match nthR r j with
    | .pool sh e' l => (sh.n = ei.sz ∧ e' = e ∧ ok j = true) ∧ ∃ (pre post : List (Value × List sh.T)) (p : Option Addr) (n c : Nat) (xs ys : List sh.T), u = .slice p n c ∧ n ≤ xs.length ∧
        (l = pre ++ (.slice p xs.length c, xs) :: post ∨ ((p = none ∧ n = 0 ∧ c = 0) ∧ l = pre ++ post)) ∧ srcIs r S sh x ys ∧ (∀ y ∈ ys, sh.ok y) ∧ (n + ys.length) * ei.bytes ≤ 140737488355328 ∧
        ∀ (p' : Option Addr) (c' : Nat), PForm p' (n + ys.length) c' → put t d (.c (.v (.slice p' (n + ys.length) c'))) fun t => setR r j (.pool sh e' (pre ++ (.slice p' (n + ys.length) c', xs.take n ++ ys) :: post)) fun r => K t r S
    | _ => False

/-- Is it an operation that leaves memory alone? -/
def quietOp : Op → Bool
  | .alloc _ | .box _ _ | .buildSlice .. | .insert .. | .store .. | .ready _ | .waits _ | .makeMap .. | .makeChan .. | .makeSlice .. | .mapUpdate .. | .mapEntry .. | .entryStore ..
  | .typeAssert .. | .range .. | .next .. | .go _ | .defer _ | .panic _ | .send .. | .recv .. | .select .. => false
  | .call { callee := .builtin b, .. } => match b with
    | .len | .cap | .max | .min => true
    | _ => false
  | .call _ => false
  | _ => true

/-- Is it a string that becomes bytes? -/
def isStrB (tt : Nat → Option TI) (op : Op) : Bool := match op with
  | .convert src dst _ => match tt src, tt dst with
    | some si, some di => match si.kind, di.kind with
      | .str, .slice e => match tt e with
        | some ei => match ei.kind with
          | .int .u8 => true
          | _ => false
        | none => false
      | _, _ => false
    | _, _ => false
  | _ => false
/-- A string becomes a new row of bytes, which the store knows. -/
def strBK (t : List SV) (r : List Res) (S : Store) (d : Option Tmp) (op : Op) (K : SK) : Prop := match op with
  | .convert _ _ x => match ev t x with
    | .c (.v (.string s)) => ∀ (g c : Nat) (S' : Store), S.le S' → RowRd S' (some ⟨g, 0, none⟩) (.int .u8) (strInts s) → s.size ≤ c → put t d (.c (.v (.slice (some ⟨g, 0, none⟩) s.size c))) fun t => snocK r .gone fun r => K t r S'
    | _ => False
  | _ => False

def vcOp (P : Program) (tt : Nat → Option TI) (o : Oper) (K : SK) (t : List SV) (r : List Res) (S : Store) : Prop :=
  match quietOp o.op with
  | true => match isStrB tt o.op with
    | true => strBK t r S o.dst o.op K
    | false => vcQ P tt t r S o.op fun x => put t o.dst x fun t => K t r S
  | false => vcE P tt (fun _ => true) t r S o.dst o.op K

def split (b : Bool) (K : Bool → Prop) : Prop := (b = true → K true) ∧ (b = false → K false)

/-- A guarded operation: the guard's slot is decided first. 'kn': the slots that have been decided. -/
def vcGuard (ops : Array Oper) (o : Oper) (kn : List Nat) (go skip : List Nat → SK) (t : List SV) (r : List Res) (S : Store) : Prop := match o.guard with
  | none => go kn t r S
  | some (j, want) => match ((ops[j]?).bind (·.dst)) with
    | some u => match isIn u kn with
      | true => match nth t u with
        | .c (.v (.bool b)) => match b, want with
          | true, true => go kn t r S
          | false, false => go kn t r S
          | _, _ => put t o.dst (.tup []) fun t => skip kn t r S
        | .tup [] => put t o.dst (.tup []) fun t => skip kn t r S
        | _ => False
      | false => match nth t u with
        | .c (.v (.bool b)) => split b fun b => setK t u (.c (.v (.bool b))) fun t => match b, want with
          | true, true => go (u :: kn) t r S
          | false, false => go (u :: kn) t r S
          | _, _ => put t o.dst (.tup []) fun t => skip (u :: kn) t r S
        | .tup [] => put t o.dst (.tup []) fun t => skip (u :: kn) t r S
        | _ => False
    | none => False

def vcOps (P : Program) (tt : Nat → Option TI) (ops : Array Oper) (K : SK) : List Oper → List Nat → SK
  | [], _, t, r, S => K t r S
  | o :: rest, kn, t, r, S => vcGuard ops o kn (fun kn => vcOp P tt o (vcOps P tt ops K rest kn)) (vcOps P tt ops K rest) t r S

/-! A region that draws its order: the operations that leave memory alone come first, each as soon as it may; of the others one alone may come up at a time. 'W': the resources that the region writes. -/

def hideK (W : List Nat) : List Res → Nat → (List Res → Prop) → Prop
  | [], _, k => k []
  | x :: xs, n, k => if W.contains n = true then hideK W xs (n + 1) fun ys => k (.gone :: ys) else hideK W xs (n + 1) fun ys => k (x :: ys)

def wrOk (W : List Nat) (t : List SV) (op : Op) : Bool := match op with
  | .store _ d _ => match ev t d with
    | .c (.ptr i _) => W.contains i
    | .c (.elt i _ _ _) => W.contains i
    | _ => true
  | .mapUpdate _ m _ _ => match ev t m with
    | .c (.ref i) => W.contains i
    | _ => true
  | .insert _ m _ _ => match ev t m with
    | .c (.ref i) => W.contains i
    | _ => true
  | .call { callee := .builtin .append, args, .. } => match args.toList with
    | s :: _ => match ev t s with
      | .c (.ref i) => W.contains i
      | _ => true
    | _ => true
  | .next x _ => match ev t x with
    | .c (.ptr i _) => W.contains i
    | _ => true
  | _ => true

/-- A call that is held to be of a function that writes nothing that is there: it stands in 'F'. -/
def softCall (F : List Nat) (i : Nat) (op : Op) : Bool := match op with
  | .call { callee := .value _, .. } => isIn i F
  | _ => false
/-- 'F': operations that leave memory alone and yet take their place among the others (they see what the region writes). -/
def vcOpD (P : Program) (tt : Nat → Option TI) (W F : List Nat) (i : Nat) (o : Oper) (K : SK) (t : List SV) (r : List Res) (S : Store) : Prop :=
  match quietOp o.op with
  | true => match isIn i F with
    | false => hideK W r 0 fun r' => vcQ P tt t r' S o.op fun x => put t o.dst x fun t => K t r S
    | true => vcQ P tt t r S o.op fun x => put t o.dst x fun t => K t r S
  | false => if wrOk W t o.op = true then vcE P tt (match softCall F i o.op with | true => fun _ => false | false => W.contains) t r S o.dst o.op K else False

/-- An order, or, where several operations may come up, one for each of them. -/
inductive Ord where
  | done
  | stop
  | op (i : Nat) (rest : Ord)
  | calm (i : Nat) (D : List Nat) (rest : Ord)
  | alt (i : Nat) (rest other : Ord)
def Ord.of : List Nat → Ord
  | [] => .done
  | i :: is => .op i (Ord.of is)
def Ord.heads : Ord → List Nat
  | .alt i _ o => i :: o.heads
  | _ => []

def vcOrd (P : Program) (tt : Nat → Option TI) (ops : Array Oper) (W F : List Nat) (K : SK) : Ord → List Nat → SK
  | .done, _, t, r, S => K t r S
  | .stop, _, _, _, _ => True
  | .op i rest, kn, t, r, S => match ops[i]? with
    | none => False
    | some o => vcGuard ops o kn (fun kn => vcOpD P tt W F i o (vcOrd P tt ops W F K rest kn)) (vcOrd P tt ops W F K rest) t r S
  | .calm i _ rest, kn, t, r, S => match ops[i]? with
    | none => False
    | some o => vcGuard ops o kn (fun kn t r S => vcQ P tt t r S o.op fun x => put t o.dst x fun t => vcOrd P tt ops W F K rest kn t r S) (vcOrd P tt ops W F K rest) t r S
  | .alt i rest other, kn, t, r, S => (match ops[i]? with
    | none => False
    | some o => vcGuard ops o kn (fun kn => vcOpD P tt W F i o (vcOrd P tt ops W F K rest kn)) (vcOrd P tt ops W F K rest) t r S) ∧ vcOrd P tt ops W F K other kn t r S

/-- Does the operation take its place among those that act on memory? -/
def placed (ops : Array Oper) (F : List Nat) (i : Nat) : Bool := match ops[i]? with
  | none => false
  | some o => !(quietOp o.op && !(isIn i F))

/-- It writes nothing that is there. -/
def softOp (tt : Nat → Option TI) (op : Op) : Bool := quietOp op || match op with
  | .alloc _ => true
  | .box _ _ => true
  | .makeMap _ none => true
  | .buildSlice ty _ _ => !(plainEl tt ty) && !(ptrEl tt ty)
  | .makeSlice _ _ _ => true
  | _ => false
def softAt (tt : Nat → Option TI) (ops : Array Oper) (F : List Nat) (j : Nat) : Bool := match ops[j]? with
  | some o => softOp tt o.op || softCall F j o.op
  | none => true
/-- All that may come ahead of operation i writes nothing that is there. 'D': what must come behind it. -/
def calmOk (tt : Nat → Option TI) (ops : Array Oper) (F : List Nat) (listed : Array Bool) (i : Nat) (D : List Nat) : Bool :=
  D.contains i && (D.all fun d => listed.getD d true == false && (d == i || match ops[d]? with
    | some o => o.after.any fun e => Region.binds .any e && D.contains e.on
    | none => false)) && (List.range ops.size).all fun j => listed.getD j true || D.contains j || softAt tt ops F j

/-- The order is one that stands for all. 'b': inside a choice. -/
def drawOk (tt : Nat → Option TI) (ops : Array Oper) (F : List Nat) : Ord → Bool → Nat → Array Bool → Bool
  | .done, b, n, listed => !b && n == 0 && (Region.ready .any ops listed).isEmpty
  | .stop, b, _, _ => b
  | .op i rest, b, n + 1, listed => !b && (match ops[i]? with
    | none => false
    | some o => match quietOp o.op && !(isIn i F) with
      | true => (Region.ready .any ops listed).contains i && Region.free .any ops listed i
      | false => decide (Region.ready .any ops listed = [i])) && drawOk tt ops F rest false n (listed.setIfInBounds i true)
  | .calm i D rest, b, n + 1, listed => !b && (match ops[i]? with
    | none => false
    | some o => quietOp o.op && (Region.ready .any ops listed).contains i && Region.free .any ops listed i && calmOk tt ops F listed i D) && drawOk tt ops F rest false n (listed.setIfInBounds i true)
  | .alt i rest other, b, n + 1, listed => (b || decide (Region.ready .any ops listed = i :: other.heads)) && placed ops F i && drawOk tt ops F rest false n (listed.setIfInBounds i true) && drawOk tt ops F other true (n + 1) listed
  | _, _, _, _ => false

def vcDraw (P : Program) (tt : Nat → Option TI) (ops : Array Oper) (K : SK) (t : List SV) (r : List Res) (S : Store) : Prop :=
  ∃ (ord : Ord) (W F : List Nat), (P.follows .mixedOrders && Region.noSelect ops && drawOk tt ops F ord false ops.size (Array.replicate ops.size false)) = true ∧ vcOrd P tt ops W F K ord [] t r S

def junkAll : List SV → List Nat → List SV
  | t, [] => t
  | t, w :: ws => junkAll (t.set w (.c .junk)) ws
def updAll : List SV → List (Nat × SV) → List SV
  | t, [] => t
  | t, (w, x) :: ws => updAll (t.set w x) ws
def junkK : List SV → List Nat → (List SV → Prop) → Prop
  | t, [], k => k t
  | t, w :: ws, k => setK t w (.c .junk) fun t => junkK t ws k
def updK : List SV → List (Nat × SV) → (List SV → Prop) → Prop
  | t, [], k => k t
  | t, (w, x) :: ws, k => setK t w x fun t => updK t ws k

def leSV (x y : SV) : Prop := match y with
  | .c .junk => True
  | y => x = y
def leT : List SV → List SV → Prop
  | [], [] => True
  | x :: xs, y :: ys => leSV x y ∧ leT xs ys
  | _, _ => False

/-- A nil slice in a slot is an own row without elements; so is one in an own box (from 300000 on: the box's number, and its cell a thousandfold). -/
def matL : List (Nat × Shape × TypeId) → SK → SK
  | [], K, t, r, S => K t r S
  | (w, sh, e) :: l, K, t, r, S => match Nat.ble 400000 w with
   | true => nameK (fun _ => true) (w - 400000) (matL l K) t r S
   | false => match Nat.ble 300000 w with
   | true => match nthR r ((w - 300000) % 1000) with
     | .box cs => match cs[(w - 300000) / 1000]? with
       | some (.v (.slice none 0 0)) => lenK r fun n => forceL (cs.set ((w - 300000) / 1000) (.ref n)) fun cs => setR r ((w - 300000) % 1000) (.box cs) fun r => snocK r (.row sh e []) fun r => matL l K t r S
       | _ => False
     | _ => False
   | false => match Nat.ble 200000 w with
   | true => matL l K t r S
   | false => match Nat.ble 100000 w with
   | true => snocK r (.pool sh e []) fun r => matL l K t r S
   | false => match nth t w with
    | .c (.v (.slice none 0 0)) => lenK r fun n => setK t w (.c (.ref n)) fun t => snocK r (.row sh e []) fun r => matL l K t r S
    | _ => False

/-- The slots whose handles are made plain at the end of each round: an entry from 200000 on. -/
def backOps : List (Nat × Shape × TypeId) → List Operand
  | [] => []
  | (w, _, _) :: l => match Nat.ble 200000 w, Nat.ble 300000 w with
    | true, false => .tmp (w - 200000) :: backOps l
    | _, _ => backOps l

/-- It names resources below n only. -/
def C.lt (n : Nat) : C → Bool
  | .ref i => Nat.blt i n
  | .ptr i _ => Nat.blt i n
  | .sl i _ _ _ => Nat.blt i n
  | .elt i _ _ _ => Nat.blt i n
  | .seg i _ _ _ => Nat.blt i n
  | .clo _ cs => capsLt n cs
  | _ => true
where
  capsLt (n : Nat) : List (Nat ⊕ Value) → Bool
    | [] => true
    | .inl i :: cs => Nat.blt i n && capsLt n cs
    | .inr _ :: cs => capsLt n cs
def ltL (n : Nat) : List C → Bool
  | [] => true
  | x :: xs => x.lt n && ltL n xs
def ltP (n : Nat) : List (Bool × List C) → Bool
  | [] => true
  | p :: ps => ltL n p.2 && ltP n ps
def SV.lt (n : Nat) : SV → Bool
  | .c x => x.lt n
  | .agg xs => ltL n xs
  | .tup ps => ltP n ps
def ltT (n : Nat) : List SV → Bool
  | [] => true
  | x :: xs => x.lt n && ltT n xs
def ltR (n : Nat) : List Res → Bool
  | [] => true
  | .box cs :: r => ltL n cs && ltR n r
  | _ :: r => ltR n r

/-- The round's state 'a' is met: its slots are 't0' with 'g a' laid over; resources beyond its own are let go. -/
def meets (nb : Nat) {A : Type} (t0 : List SV) (g : A → List (Nat × SV)) (rs : A → List Res) (Sf : A → Store) (t : List SV) (r : List Res) (S : Store) (a : A) : Prop :=
  updK t0 (g a) (fun u => leT t u ∧ (Nat.ble nb (rs a).length && Nat.ble (rs a).length r.length && ltT (rs a).length u && ltR (rs a).length (rs a)) = true) ∧ r.take (rs a).length = rs a ∧ (Sf a).le S

def vcCode (P : Program) (tt : Nat → Option TI) (nb : Nat) : Code → (Exit → SK) → SK
  | .skip, Q, t, r, S => Q .normal t r S
  | .region _ ops draw, Q, t, r, S => match draw with
    | false => vcOps P tt ops (Q .normal) ops.toList [] t r S
    | true => vcDraw P tt ops (Q .normal) t r S
  | .seq a b, Q, t, r, S => vcCode P tt nb a (fun e t r S => match e with
    | .normal => vcCode P tt nb b Q t r S
    | e => Q e t r S) t r S
  | .cond c a b, Q, t, r, S => match c with
    | .tmp i => match nth t i with
      | .c (.v (.bool x)) => split x fun x => match x with
        | true => setK t i (.c (.v (.bool true))) fun t => vcCode P tt nb a Q t r S
        | false => setK t i (.c (.v (.bool false))) fun t => vcCode P tt nb b Q t r S
      | _ => False
    | _ => False
  | .block id c, Q, t, r, S => vcCode P tt nb c (fun e t r S => match e with
    | .exit j => if j = id then Q .normal t r S else Q (.exit j) t r S
    | e => Q e t r S) t r S
  | .loop c, Q, t, r, S => ∃ (fz : List Nat) (mt : List (Nat × Shape × TypeId)), frzL fz (matL mt fun t r S => ∃ (A : Type) (ws : List Nat) (g : A → List (Nat × SV)) (rs : A → List Res) (Sf : A → Store) (inv : A → Prop) (μ : A → Nat),
      junkK t ws fun t0 => (∃ a, meets nb t0 g rs Sf t r S a ∧ inv a) ∧
        ∀ a, inv a → updK t0 (g a) fun t => vcCode P tt nb c (fun e t r S => match e with
          | .normal => frzOps (fun _ => true) (backOps mt) (fun t r S => ∃ a', meets nb t0 g rs Sf t r S a' ∧ inv a' ∧ μ a' < μ a) t r S
          | e => Q e t r S) t (rs a) (Sf a)) t r S
  | .exit id, Q, t, r, S => Q (.exit id) t r S
  | .ret, Q, t, r, S => Q .ret t r S
  | _, _, _, _, _ => False

def repK : Nat → (List SV → Prop) → Prop
  | 0, k => k []
  | n + 1, k => repK n fun t => k (.tup [] :: t)
/-- The slots at a call's beginning: the arguments, then n empty ones. -/
def padK : List SV → Nat → (List SV → Prop) → Prop
  | [], n, k => repK n k
  | x :: xs, n, k => force x fun x => padK xs n fun t => k (x :: t)

end Go.Vc

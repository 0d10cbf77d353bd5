/- Verification conditions, second part: operations that act on memory, regions in order, code. -/
import Derived.Test.YtapblcfbmaikjaaGreatDoorVcA
namespace Go.Vc
open Go

/-- Of what was there nothing turns. -/
structure Old (w w' : World) : Prop where
  os : w'.os = w.os
  tape : w'.tape = w.tape
  output : w'.output = w.output
  size : w.heap.size ≤ w'.heap.size
  block : ∀ k, k < w.heap.size → w'.heap[k]? = w.heap[k]?

/-- A captured variable: an own box, or an address that came in. -/
def capRel (ρ : List Value) (c : Nat ⊕ Value) (z : Value) : Prop := match c with
  | Sum.inl i => ∃ b, ρ[i]? = some (.pointer (some ⟨b, 0, none⟩)) ∧ z = .pointer (some ⟨b, 0, none⟩)
  | Sum.inr u => z = u ∧ u.oneCell' = true

def C.rel (ρ : List Value) : C → Value → Prop
  | .junk, y => y.oneCell' = true
  | .v x, y => y = x ∧ x.oneCell' = true
  | .ptr i o, y => ∃ b, ρ[i]? = some (.pointer (some ⟨b, 0, none⟩)) ∧ y = .pointer (some ⟨b, o, none⟩)
  | .sl i o n m, y => ∃ b, ρ[i]? = some (.pointer (some ⟨b, 0, none⟩)) ∧ y = .slice (some ⟨b, o, none⟩) n m
  | .ref i, y => ρ[i]? = some y ∧ y.oneCell' = true
  | .elt i k sz o, y => ∃ b n m, ρ[i]? = some (.slice (some ⟨b, 0, none⟩) n m) ∧ y = .pointer (some ⟨b, k * sz + o, none⟩)
  | .seg i lo n sz, y => ∃ p len m, ρ[i]? = some (.slice p len m) ∧ lo + n ≤ len ∧ y = .slice (if m = lo then p else p.map fun p => addrAdd p (lo * sz)) n (m - lo)
  | .clo f cs, y => ∃ ys : List Value, y = .func (.func f) #[] ys.toArray ∧ ys.length = cs.length ∧
      ∀ (j : Nat) c z, cs[j]? = some c → ys[j]? = some z → capRel ρ c z

def rels {α β : Type} (R : α → β → Prop) : List α → List β → Prop
  | [], [] => True
  | x :: xs, y :: ys => R x y ∧ rels R xs ys
  | _, _ => False

/-- A component of a tuple. -/
def compRel (ρ : List Value) (x : Bool × List C) (y : Value) : Prop := match x with
  | (true, cs) => ∃ ys : List Value, y = .agg ys.toArray ∧ rels (C.rel ρ) cs ys
  | (false, [x]) => x.rel ρ y
  | _ => False

def SV.rel (ρ : List Value) : SV → Value → Prop
  | .c .junk, _ => True
  | .c x, y => x.rel ρ y
  | .agg cs, y => ∃ ys : List Value, y = .agg ys.toArray ∧ rels (C.rel ρ) cs ys
  | .tup xs, y => ∃ ys : List Value, y = .tuple ys.toArray ∧ rels (compRel ρ) xs ys

/-- A call that reads what the store knows, turns nothing that was there, and hands back a value without own parts. -/
def Pure (P : Program) (f : FuncId) (S : Store) (args : List Value) {A : Type} (out : A → SV) (Post : Store → A → Prop) : Prop :=
  ∀ w : World, S.le (Store.of w) → Calls P f args.toArray w fun e w' =>
    ∃ (v : Value) (x : A) (S' : Store), e = .returned v ∧ (out x).rel [] v ∧ S.le S' ∧ S'.le (Store.of w') ∧ Old w w' ∧
      (∀ b, b < w.heap.size → (∀ i, S'.c b i = S.c b i) ∧ S'.o b = S.o b) ∧ Post S' x

def putCells (cs : List C) (o : Nat) (ys : List C) : List C := cs.take o ++ ys ++ cs.drop (o + ys.length)

/-- The block that a handle names. -/
def blk : Value → Option Nat
  | .pointer (some a) => some a.block
  | .slice (some a) _ _ => some a.block
  | .map (some r) => some r
  | _ => none

def Res.alive : Res → Bool
  | .gone => false
  | _ => true

def Shape.encs (s : Shape) (xs : List s.T) : List Value := xs.flatMap s.enc

/-- A handle that no append turns. -/
def fixedH : Value → Bool
  | .slice _ _ _ => false
  | _ => true

/-- A resource with handle 'h' is as stated in 'w'. -/
def Res.holds (ρ : List Value) (h : Value) (w : World) : Res → Prop
  | .gone => True
  | .box cs => ∃ b T xs, h = .pointer (some ⟨b, 0, none⟩) ∧ w.heap[b]? = some (.cells xs T (0, 0)) ∧ rels (C.rel ρ) cs xs.toList
  | .row sh e xs => w.ownsRow 0 e sh.n h xs.length (sh.encs xs) ∧ ∀ x ∈ xs, sh.ok x
  | .map k e es => ∃ b ents clock, h = .map (some b) ∧ w.heap[b]? = some (.map ents clock) ∧ mapIs k e ents clock es
  | .iter k e m ents clock left cur => ∃ b seen, h = .pointer (some ⟨b, 0, none⟩) ∧ w.heap[b]? = some (.mapIter m clock seen clock) ∧ (m = none → left = [] ∧ cur = none) ∧ (m ≠ none → (∃ l, mapIs k e ents clock l) ∧
      (leftOf ents seen).toList.map (fun x => (x.key, x.val)) = left.map (fun p => (k.val p.1, e.val p.2)) ∧ (∀ p ∈ left, k.ok p.1 ∧ e.ok p.2) ∧
      ∀ p, cur = some p → ∃ (x : MapEntry) (s' : Array Nat), x ∈ ents.toList ∧ seen = s'.push x.born ∧ x.key = k.val p.1 ∧ x.val = e.val p.2 ∧ k.ok p.1 ∧ e.ok p.2)
  | .ext Q => fixedH h = true ∧ Q h ((blk h).bind (w.heap[·]?))
  | .pool sh e l => h = .nilFunc ∧ (∀ p ∈ l, w.ownsRow 0 e sh.n p.1 p.2.length (sh.encs p.2) ∧ ∀ x ∈ p.2, sh.ok x) ∧ l.Pairwise fun p q => ∀ b, blk p.1 = some b → blk q.1 = some b → False

/-- The blocks that a resource owns. -/
def Res.foot (x : Res) (h : Value) (b : Nat) : Prop := match x with
  | .pool _ _ l => ∃ p ∈ l, blk p.1 = some b
  | _ => blk h = some b

/-- The blocks that may turn, and what was known at the beginning. -/
structure Base where
  p : Nat → Prop
  s : Store
  h : List Value := []

/-- The whole state of a walk: what is owned is apart, the store lies elsewhere, and of what was there at the beginning nothing but the blocks 'B.p' has turned; of old blocks the store knows no more than 'B.s'. -/
structure Stab (w0 : World) (B : Base) (ρ : List Value) (r : List Res) (S : Store) (w : World) : Prop where
  len : ρ.length = r.length
  res : ∀ (i : Nat) x, r[i]? = some x → ∃ h, ρ[i]? = some h ∧ x.holds ρ h w
  disj : ∀ (i j : Nat) x y g h b, r[i]? = some x → r[j]? = some y → x.alive = true → y.alive = true → ρ[i]? = some g → ρ[j]? = some h → x.foot g b → y.foot h b → i = j
  own : ∀ (i : Nat) x h b, r[i]? = some x → x.alive = true → ρ[i]? = some h → x.foot h b → b < w.heap.size ∧ (w0.heap.size ≤ b ∨ B.p b) ∧ (∀ o, S.c b o = none) ∧ S.o b = none
  sub : S.le (Store.of w)
  os : w.os = w0.os
  tape : w.tape = w0.tape
  output : w.output = w0.output
  size : w0.heap.size ≤ w.heap.size
  block : ∀ b, b < w0.heap.size → ¬ B.p b → w.heap[b]? = w0.heap[b]?
  low : ∀ b, b < w0.heap.size → ¬ B.p b → (∀ o x, S.c b o = some x → B.s.c b o = some x) ∧ ∀ x, S.o b = some x → B.s.o b = some x
  pre : ∀ (i : Nat) h, B.h[i]? = some h → fixedH h = true → ρ[i]? = some h

/-- The blocks of some resources. -/
def Owned (ins : List Res) (ρ : List Value) (b : Nat) : Prop := ∃ (i : Nat) (x : Res) (h : Value), ins[i]? = some x ∧ x.alive = true ∧ ρ[i]? = some h ∧ x.foot h b

/-- A call that is handed resources which it may turn: 'ins' before, 'outs' behind. -/
def SpecR (P : Program) (f : FuncId) (S : Store) (ins : List Res) (args : List SV) {A : Type} (out : A → SV) (outs : A → List Res) (Post : Store → A → Prop) : Prop :=
  ∀ (w : World) (ρ vs : List Value), Stab w ⟨Owned ins ρ, S, ρ⟩ ρ ins S w → rels (SV.rel ρ) args vs → Calls P f vs.toArray w fun e w' =>
    ∃ (v : Value) (x : A) (S' : Store) (ρ' : List Value), e = .returned v ∧ (out x).rel ρ' v ∧ (outs x).length = ins.length ∧ Stab w ⟨Owned ins ρ, S, ρ⟩ ρ' (outs x) S' w' ∧ S.le S' ∧
      (∀ b, b < w.heap.size → ¬ Owned ins ρ b → (∀ i, S'.c b i = S.c b i) ∧ S'.o b = S.o b) ∧ Post S' x

/-- The same of a call behind which every handle is as it was (no append). -/
def SpecK (P : Program) (f : FuncId) (S : Store) (ins : List Res) (args : List SV) {A : Type} (out : A → SV) (outs : A → List Res) (Post : Store → A → Prop) : Prop :=
  ∀ (w : World) (ρ vs : List Value), Stab w ⟨Owned ins ρ, S, ρ⟩ ρ ins S w → rels (SV.rel ρ) args vs → Calls P f vs.toArray w fun e w' =>
    ∃ (v : Value) (x : A) (S' : Store), e = .returned v ∧ (out x).rel [] v ∧ (outs x).length = ins.length ∧ Stab w ⟨Owned ins ρ, S, ρ⟩ ρ (outs x) S' w' ∧ S.le S' ∧
      (∀ b, b < w.heap.size → ¬ Owned ins ρ b → (∀ i, S'.c b i = S.c b i) ∧ S'.o b = S.o b) ∧ Post S' x

/-- A call that reads what the store knows, turns nothing that was there, and hands back a value with own parts: 'news'. -/
def SpecN (P : Program) (f : FuncId) (S : Store) (args : List Value) {A : Type} (out : A → SV) (news : A → List Res) (Post : Store → A → Prop) : Prop :=
  ∀ w : World, S.le (Store.of w) → Calls P f args.toArray w fun e w' =>
    ∃ (v : Value) (x : A) (S' : Store) (ρ' : List Value), e = .returned v ∧ (out x).rel ρ' v ∧ Stab w ⟨fun _ => False, S, []⟩ ρ' (news x) S' w' ∧ S.le S' ∧
      (∀ b, b < w.heap.size → (∀ i, S'.c b i = S.c b i) ∧ S'.o b = S.o b) ∧ Post S' x

end Go.Vc

/- law29: the reference's Args and Call. -/
import Derived.Test.YtjlkekebhgjlcaaDoorFf
namespace Go.Proofs.YtjlkekebhgjlcaaDoor
open Go Go.Vc
set_option maxRecDepth 100000

theorem streq (u v : ByteArray) : (u.toList == v.toList) = decide (u = v) := by
  rw [ByteArray.toList_eq, ByteArray.toList_eq]
  by_cases h : u = v
  · subst h; simp
  · rw [decide_eq_false h]
    refine beq_eq_false_iff_ne.2 fun e => h ?_
    cases u; cases v
    simp only [ByteArray.mk.injEq]
    exact Array.ext' e
def n0 : ByteArray := ⟨#[99, 97, 108, 109]⟩
def n1 : ByteArray := ⟨#[100, 101, 101, 112]⟩
def n2 : ByteArray := ⟨#[100, 111, 117, 98, 108, 101]⟩
def n3 : ByteArray := ⟨#[102, 97, 105, 108]⟩
def n4 : ByteArray := ⟨#[109, 111, 115, 116]⟩
def n5 : ByteArray := ⟨#[112, 97, 114, 116]⟩
def n6 : ByteArray := ⟨#[115, 113, 117, 97, 114, 101]⟩
def n7 : ByteArray := ⟨#[115, 117, 109]⟩
structure NoName (name : ByteArray) : Prop where
  h0 : name ≠ n0
  h1 : name ≠ n1
  h2 : name ≠ n2
  h3 : name ≠ n3
  h4 : name ≠ n4
  h5 : name ≠ n5
  h6 : name ≠ n6
  h7 : name ≠ n7
theorem name_cases (name : ByteArray) : (name = n0 ∨ name = n1 ∨ name = n2 ∨ name = n3 ∨ name = n4 ∨ name = n5 ∨ name = n6 ∨ name = n7) ∨ NoName name := by
  by_cases h0 : name = n0
  · exact .inl (.inl h0)
  by_cases h1 : name = n1
  · exact .inl (.inr (.inl h1))
  by_cases h2 : name = n2
  · exact .inl (.inr (.inr (.inl h2)))
  by_cases h3 : name = n3
  · exact .inl (.inr (.inr (.inr (.inl h3))))
  by_cases h4 : name = n4
  · exact .inl (.inr (.inr (.inr (.inr (.inl h4)))))
  by_cases h5 : name = n5
  · exact .inl (.inr (.inr (.inr (.inr (.inr (.inl h5))))))
  by_cases h6 : name = n6
  · exact .inl (.inr (.inr (.inr (.inr (.inr (.inr (.inl h6)))))))
  by_cases h7 : name = n7
  · exact .inl (.inr (.inr (.inr (.inr (.inr (.inr (.inr h7)))))))
  exact .inr ⟨h0, h1, h2, h3, h4, h5, h6, h7⟩
/-- The function of a name: how many arguments, and which. -/
def find (name : ByteArray) : Option (Int × Nat) :=
  if name = n0 then some (1, 32) else if name = n1 then some (1, 33) else if name = n2 then some (1, 34) else if name = n3 then some (1, 35) else if name = n4 then some (2, 36)
  else if name = n5 then some (2, 37) else if name = n6 then some (1, 38) else if name = n7 then some (2, 39) else none
theorem find_none {name : ByteArray} (h : NoName name) : find name = none := by simp [find, h.h0, h.h1, h.h2, h.h3, h.h4, h.h5, h.h6, h.h7]
theorem mget_host (name : ByteArray) : mget .str host name = (find name).map fun x => (x.1, fv x.2) := by
  rcases name_cases name with h | h
  · rcases h with rfl | rfl | rfl | rfl | rfl | rfl | rfl | rfl <;> rfl
  · rw [find_none h]
    have e : ∀ k, name ≠ k → Shape.eq .str name k = false := fun k hk => by
      exact Bool.eq_false_iff.2 fun h => hk (eq_val (kd := .str) (ks := .str) rfl h)
    unfold host
    simp only [mget]
    rw [if_neg (by show ¬ Shape.eq .str name n0 = true; rw [e _ h.h0]; decide), if_neg (by show ¬ Shape.eq .str name n1 = true; rw [e _ h.h1]; decide), if_neg (by show ¬ Shape.eq .str name n2 = true; rw [e _ h.h2]; decide), if_neg (by show ¬ Shape.eq .str name n3 = true; rw [e _ h.h3]; decide), if_neg (by show ¬ Shape.eq .str name n4 = true; rw [e _ h.h4]; decide), if_neg (by show ¬ Shape.eq .str name n5 = true; rw [e _ h.h5]; decide), if_neg (by show ¬ Shape.eq .str name n6 = true; rw [e _ h.h6]; decide), if_neg (by show ¬ Shape.eq .str name n7 = true; rw [e _ h.h7]; decide)]
    rfl
def arity (name : ByteArray) : Int := match find name with
  | some x => x.1
  | none => -1
theorem offE {b : Bool} {p q : Prop} (hb : b = false) (h : q) : (b = true → p) ∧ (b = false → q) := ⟨fun e => Bool.noConfusion (hb.symm.trans e), fun _ => h⟩
theorem onE {b : Bool} {p q : Prop} (hb : b = true) (h : p) : (b = true → p) ∧ (b = false → q) := ⟨fun _ => h, fun e => Bool.noConfusion (hb.symm.trans e)⟩
theorem arity_spec (S : Store) (name : ByteArray) : Pure Tryd.prog 21 S [.string name] rI (fun _ x => x = arity name) := by
  refine pure_vc agrees Tryd.func21 rfl rfl (fun S S' q hle h => h) ?_
  have eF : ∀ k, name ≠ k → (name.toList == k.toList) = false := fun k h => by rw [streq]; exact decide_eq_false h
  rcases name_cases name with h | h
  · rcases h with rfl | rfl | rfl | rfl | rfl | rfl | rfl | rfl
    all_goals (repeat' first | exact ⟨rfl, _, rfl, rfl⟩ | refine onE (by rw [streq]; decide) ?_ | refine offE (by rw [streq]; decide) ?_ | refine onT ?_ | refine onF ?_)
  · have hf : arity name = -1 := by unfold arity; rw [find_none h]
    repeat' first | exact ⟨rfl, _, rfl, hf.symm⟩ | refine offE (eF _ h.h0) ?_ | refine offE (eF _ h.h1) ?_ | refine offE (eF _ h.h2) ?_ | refine offE (eF _ h.h3) ?_ | refine offE (eF _ h.h4) ?_ | refine offE (eF _ h.h5) ?_ | refine offE (eF _ h.h6) ?_ | refine offE (eF _ h.h7) ?_ | refine onF ?_

/-- What a call answers. -/
def hostR (f : Nat) (l : List Int) : Int × ByteArray × Bool := match f, l with
  | 32, [x] => (IntKind.i64.wrap (x + 1), ByteArray.empty, true)
  | 33, [x] => (0, ⟨#[100, 101, 101, 112]⟩ ++ ⟨#[32]⟩ ++ dec x, false)
  | 34, [x] => (IntKind.i64.wrap (x * 2), ByteArray.empty, true)
  | 35, [x] => (0, ⟨#[102, 97, 105, 108]⟩ ++ ⟨#[32]⟩ ++ dec x, false)
  | 36, [x, y] => (if y > x then y else x, ByteArray.empty, true)
  | 37, [x, y] => if y = 0 then (0, divSaid, false) else (IntKind.i64.wrap (x.tdiv y), ByteArray.empty, true)
  | 38, [x] => (IntKind.i64.wrap (x * x), ByteArray.empty, true)
  | 39, [x, y] => (IntKind.i64.wrap (x + y), ByteArray.empty, true)
  | _, _ => (0, ByteArray.empty, true)
def callR (name : ByteArray) (l : List Int) : Int × Int × ByteArray := match find name with
  | none => (0, 10, ByteArray.empty)
  | some x => if (l.length : Int) = x.1 then ((hostR x.2 l).1, (if (hostR x.2 l).2.2 = true then 0 else 20), (hostR x.2 l).2.1) else (0, 1, ByteArray.empty)

theorem callR_len {name : ByteArray} {k : Int} {f : Nat} {l : List Int} (h : find name = some (k, f)) (hl : ¬ (l.length : Int) = k) : callR name l = (0, 1, ByteArray.empty) := by
  unfold callR; rw [h]; simp only [if_neg hl]
theorem callR_eq {name : ByteArray} {k : Int} {f : Nat} {l : List Int} (h : find name = some (k, f)) (hl : (l.length : Int) = k) : callR name l = ((hostR f l).1, (if (hostR f l).2.2 = true then 0 else 20), (hostR f l).2.1) := by
  unfold callR; rw [h]; simp only [if_pos hl]
set_option maxHeartbeats 1000000 in
theorem refcall_spec (S : Store) (name : ByteArray) (p : Hd) (l : List Int) (hl : l.length = p.2.1) (hr : RowRd S p.1 shI l) (hi : ∀ x ∈ l, inI64 x) :
    Pure Tryd.prog 19 S [.string name, slV p] (A := Int × Int × ByteArray) (fun x => .tup [(false, [.v (.int .i64 x.1)]), (false, [.v (.int .i64 x.2.1)]), (false, [.v (.string x.2.2)])]) (fun _ x => x = callR name l) := by
  obtain ⟨p, k, c⟩ := p
  simp only at hl hr
  subst hl
  refine pure_vc agrees Tryd.func19 rfl rfl (fun S S' q hle h => h) ?_
  refine ⟨⟨_, rfl, rfl, rfl⟩, .inl ⟨_, _, _, arity_spec S name, fun S1 a hS1 ha => ?_⟩⟩
  have ha : a = arity name := ha
  rcases name_cases name with h | h
  rotate_left
  · have hf : arity name = -1 := by unfold arity; rw [find_none h]
    have hc : callR name l = (0, 10, ByteArray.empty) := by unfold callR; rw [find_none h]
    exact onE (decide_eq_true (by rw [ha, hf]; decide)) ⟨rfl, _, rfl, hc.symm⟩
  rcases h with rfl | rfl | rfl | rfl | rfl | rfl | rfl | rfl
  · obtain rfl : 1 = a := ha.symm
    refine offE (by decide) ?_
    refine And.intro (fun h => ?_) (fun h => ?_)
    · exact ⟨rfl, _, rfl, (callR_len (k := 1) (f := 32) rfl (by simpa using h)).symm⟩
    have he : (l.length : Int) = 1 := by simpa using h
    obtain ⟨x, rfl⟩ : ∃ x, l = [x] := by match l, he with | [x], _ => exact ⟨x, rfl⟩
    obtain ⟨b, o, hp, hk, hd⟩ := row_at (hr.le hS1) (i := 0) rfl
    rw [callR_eq (k := 1) (f := 32) (name := n0) rfl he]
    refine ⟨by show (0 : Int) ≤ 0; decide, by show (0 : Int) < 1; decide, b, o, hp, x, trivial, hd, ?_⟩
    repeat' first | refine onE (by rw [streq]; decide) ?_ | refine offE (by rw [streq]; decide) ?_
    exact ⟨_, rfl, rfl, _, rfl, rfl⟩
  · obtain rfl : 1 = a := ha.symm
    refine offE (by decide) ?_
    refine And.intro (fun h => ?_) (fun h => ?_)
    · exact ⟨rfl, _, rfl, (callR_len (k := 1) (f := 33) rfl (by simpa using h)).symm⟩
    have he : (l.length : Int) = 1 := by simpa using h
    obtain ⟨x, rfl⟩ : ∃ x, l = [x] := by match l, he with | [x], _ => exact ⟨x, rfl⟩
    obtain ⟨b, o, hp, hk, hd⟩ := row_at (hr.le hS1) (i := 0) rfl
    rw [callR_eq (k := 1) (f := 33) (name := n1) rfl he]
    refine ⟨by show (0 : Int) ≤ 0; decide, by show (0 : Int) < 1; decide, b, o, hp, x, trivial, hd, ?_⟩
    repeat' first | refine onE (by rw [streq]; decide) ?_ | refine offE (by rw [streq]; decide) ?_
    refine ⟨⟨_, rfl, rfl, rfl⟩, .inl ⟨_, _, _, digits_spec S1 x (hi x (by simp)), fun S2 _ hS2 _ => ?_⟩⟩
    exact ⟨by have := dec_size (hi x (by simp)); show 5 + (dec x).size ≤ _; omega, rfl, _, rfl, rfl⟩
  · obtain rfl : 1 = a := ha.symm
    refine offE (by decide) ?_
    refine And.intro (fun h => ?_) (fun h => ?_)
    · exact ⟨rfl, _, rfl, (callR_len (k := 1) (f := 34) rfl (by simpa using h)).symm⟩
    have he : (l.length : Int) = 1 := by simpa using h
    obtain ⟨x, rfl⟩ : ∃ x, l = [x] := by match l, he with | [x], _ => exact ⟨x, rfl⟩
    obtain ⟨b, o, hp, hk, hd⟩ := row_at (hr.le hS1) (i := 0) rfl
    rw [callR_eq (k := 1) (f := 34) (name := n2) rfl he]
    refine ⟨by show (0 : Int) ≤ 0; decide, by show (0 : Int) < 1; decide, b, o, hp, x, trivial, hd, ?_⟩
    repeat' first | refine onE (by rw [streq]; decide) ?_ | refine offE (by rw [streq]; decide) ?_
    exact ⟨_, rfl, rfl, _, rfl, rfl⟩
  · obtain rfl : 1 = a := ha.symm
    refine offE (by decide) ?_
    refine And.intro (fun h => ?_) (fun h => ?_)
    · exact ⟨rfl, _, rfl, (callR_len (k := 1) (f := 35) rfl (by simpa using h)).symm⟩
    have he : (l.length : Int) = 1 := by simpa using h
    obtain ⟨x, rfl⟩ : ∃ x, l = [x] := by match l, he with | [x], _ => exact ⟨x, rfl⟩
    obtain ⟨b, o, hp, hk, hd⟩ := row_at (hr.le hS1) (i := 0) rfl
    rw [callR_eq (k := 1) (f := 35) (name := n3) rfl he]
    refine ⟨by show (0 : Int) ≤ 0; decide, by show (0 : Int) < 1; decide, b, o, hp, x, trivial, hd, ?_⟩
    repeat' first | refine onE (by rw [streq]; decide) ?_ | refine offE (by rw [streq]; decide) ?_
    refine ⟨⟨_, rfl, rfl, rfl⟩, .inl ⟨_, _, _, digits_spec S1 x (hi x (by simp)), fun S2 _ hS2 _ => ?_⟩⟩
    exact ⟨by have := dec_size (hi x (by simp)); show 5 + (dec x).size ≤ _; omega, rfl, _, rfl, rfl⟩
  · obtain rfl : 2 = a := ha.symm
    refine offE (by decide) ?_
    refine And.intro (fun h => ?_) (fun h => ?_)
    · exact ⟨rfl, _, rfl, (callR_len (k := 2) (f := 36) rfl (by simpa using h)).symm⟩
    have he : (l.length : Int) = 2 := by simpa using h
    obtain ⟨x, y, rfl⟩ : ∃ x y, l = [x, y] := by match l, he with | [x, y], _ => exact ⟨x, y, rfl⟩
    obtain ⟨b, o, hp, hk, hd⟩ := row_at (hr.le hS1) (i := 0) rfl
    obtain ⟨b', o', hp', hk', hd'⟩ := row_at (hr.le hS1) (i := 1) rfl
    rw [callR_eq (k := 2) (f := 36) (name := n4) rfl he]
    refine ⟨by show (0 : Int) ≤ 0; decide, by show (0 : Int) < 2; decide, b, o, hp, x, trivial, hd, ?_⟩
    repeat' first | refine onE (by rw [streq]; decide) ?_ | refine offE (by rw [streq]; decide) ?_
    refine ⟨by show (0 : Int) ≤ 1; decide, by show (1 : Int) < 2; decide, b', o', hp', y, trivial, hd', ?_⟩
    refine offE (by rw [streq]; decide) (onE (by rw [streq]; decide) (And.intro (fun h => ?_) (fun h => ?_)))
    · have h : y > x := of_decide_eq_true h
      exact ⟨rfl, _, rfl, by simp only [hostR, if_pos h]; rfl⟩
    · have h : ¬ y > x := of_decide_eq_false h
      exact ⟨rfl, _, rfl, by simp only [hostR, if_neg h]; rfl⟩
  · obtain rfl : 2 = a := ha.symm
    refine offE (by decide) ?_
    refine And.intro (fun h => ?_) (fun h => ?_)
    · exact ⟨rfl, _, rfl, (callR_len (k := 2) (f := 37) rfl (by simpa using h)).symm⟩
    have he : (l.length : Int) = 2 := by simpa using h
    obtain ⟨x, y, rfl⟩ : ∃ x y, l = [x, y] := by match l, he with | [x, y], _ => exact ⟨x, y, rfl⟩
    obtain ⟨b, o, hp, hk, hd⟩ := row_at (hr.le hS1) (i := 0) rfl
    obtain ⟨b', o', hp', hk', hd'⟩ := row_at (hr.le hS1) (i := 1) rfl
    rw [callR_eq (k := 2) (f := 37) (name := n5) rfl he]
    refine ⟨by show (0 : Int) ≤ 0; decide, by show (0 : Int) < 2; decide, b, o, hp, x, trivial, hd, ?_⟩
    repeat' first | refine onE (by rw [streq]; decide) ?_ | refine offE (by rw [streq]; decide) ?_
    refine ⟨by show (0 : Int) ≤ 1; decide, by show (1 : Int) < 2; decide, b', o', hp', y, trivial, hd', ?_⟩
    refine offE (by rw [streq]; decide) (offE (by rw [streq]; decide) (And.intro (fun h => ?_) (fun h => ?_)))
    · have h : y = 0 := by simpa using h
      exact ⟨rfl, _, rfl, by simp only [hostR, if_pos h]; rfl⟩
    · have h : ¬ y = 0 := by simpa using h
      exact ⟨h, _, rfl, rfl, _, rfl, by simp only [hostR, if_neg h]; rfl⟩
  · obtain rfl : 1 = a := ha.symm
    refine offE (by decide) ?_
    refine And.intro (fun h => ?_) (fun h => ?_)
    · exact ⟨rfl, _, rfl, (callR_len (k := 1) (f := 38) rfl (by simpa using h)).symm⟩
    have he : (l.length : Int) = 1 := by simpa using h
    obtain ⟨x, rfl⟩ : ∃ x, l = [x] := by match l, he with | [x], _ => exact ⟨x, rfl⟩
    obtain ⟨b, o, hp, hk, hd⟩ := row_at (hr.le hS1) (i := 0) rfl
    rw [callR_eq (k := 1) (f := 38) (name := n6) rfl he]
    refine ⟨by show (0 : Int) ≤ 0; decide, by show (0 : Int) < 1; decide, b, o, hp, x, trivial, hd, ?_⟩
    repeat' first | refine onE (by rw [streq]; decide) ?_ | refine offE (by rw [streq]; decide) ?_
    exact ⟨_, rfl, rfl, _, rfl, rfl⟩
  · obtain rfl : 2 = a := ha.symm
    refine offE (by decide) ?_
    refine And.intro (fun h => ?_) (fun h => ?_)
    · exact ⟨rfl, _, rfl, (callR_len (k := 2) (f := 39) rfl (by simpa using h)).symm⟩
    have he : (l.length : Int) = 2 := by simpa using h
    obtain ⟨x, y, rfl⟩ : ∃ x y, l = [x, y] := by match l, he with | [x, y], _ => exact ⟨x, y, rfl⟩
    obtain ⟨b, o, hp, hk, hd⟩ := row_at (hr.le hS1) (i := 0) rfl
    obtain ⟨b', o', hp', hk', hd'⟩ := row_at (hr.le hS1) (i := 1) rfl
    rw [callR_eq (k := 2) (f := 39) (name := n7) rfl he]
    refine ⟨by show (0 : Int) ≤ 0; decide, by show (0 : Int) < 2; decide, b, o, hp, x, trivial, hd, ?_⟩
    repeat' first | refine onE (by rw [streq]; decide) ?_ | refine offE (by rw [streq]; decide) ?_
    refine ⟨by show (0 : Int) ≤ 1; decide, by show (1 : Int) < 2; decide, b', o', hp', y, trivial, hd', ?_⟩
    repeat' first | refine onE (by rw [streq]; decide) ?_ | refine offE (by rw [streq]; decide) ?_
    exact ⟨_, rfl, rfl, _, rfl, rfl⟩
end Go.Proofs.YtjlkekebhgjlcaaDoor

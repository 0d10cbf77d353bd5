/- law02: the reference: At, Below. -/
import Derived.Test.YtjcbbmibcbiedaaTt
import Derived.Test.YtjcbbmibcbiedaaVcN
import Derived.Test.YtjcbbmibcbiedaaOr
namespace Go.Proofs.Ytjcbbmibcbiedaa
open Go Go.Vc
set_option maxRecDepth 100000

@[reducible] def shI : Shape := .int .i64
@[reducible] def shP : Shape := .st (.pair (.int .i64) (.int .i64))
@[reducible] def rB (b : Bool) : SV := .c (.v (.bool b))
@[reducible] def rI (n : Int) : SV := .c (.v (.int .i64 n))
abbrev Hd := Option Addr × Nat × Nat
/-- A slice as it is handed on. -/
@[reducible] def slV (p : Hd) : Value := .slice p.1 p.2.1 p.2.2

/-- The number at a location. -/
def rAt : List (Int × Int) → Int → Int
  | [], _ => 0
  | p :: m, l => if p.1 = l then p.2 else rAt m l

theorem rAt_drop {l : Int} : ∀ {m : List (Int × Int)} {i : Nat}, (∀ p ∈ m.take i, p.1 ≠ l) → rAt m l = rAt (m.drop i) l
  | [], i, _ => by simp
  | p :: m, 0, _ => rfl
  | p :: m, i + 1, h => by
    have h1 : p.1 ≠ l := h p (by simp)
    rw [List.drop_succ_cons, rAt, if_neg h1]
    exact rAt_drop fun q hq => h q (by simp [hq])

set_option maxHeartbeats 1000000 in
theorem ref_at_spec (S : Store) (p : Hd) (m : List (Int × Int)) (l : Int) (hl : m.length = p.2.1) (hr : RowRd S p.1 shP m) (hn : m.length ≤ 1000000) :
    Pure Try.prog 15 S [slV p, .int .i64 l] rI (fun _ x => x = rAt m l) := by
  obtain ⟨p, k, c⟩ := p
  simp only at hl hr
  subst hl
  refine pure_vc agrees Try.func15 rfl rfl (fun S S' q hle h => h) ?_
  refine ⟨[], [], Nat, List.range' 6 60, fun i => [(5, rI i)], fun _ => [], fun _ => S, fun i => i ≤ m.length ∧ ∀ q ∈ m.take i, q.1 ≠ l, fun i => m.length - i, ?_⟩
  refine And.intro (Exists.intro 0 (And.intro (And.intro (And.intro ?_ rfl) (And.intro rfl (Store.le_refl _))) (And.intro (Nat.zero_le _) (by simp)))) ?_
  · repeat' first | exact trivial | exact rfl | refine And.intro ?_ ?_
  rintro i ⟨hi, htk⟩
  have i0 : (0 : Int) ≤ ((i : Nat) : Int) := Int.natCast_nonneg _
  refine And.intro (fun h => ?_) (fun h => ?_)
  · have hil : i < m.length := by
      have : ((i : Nat) : Int) < ((m.length : Nat) : Int) := of_decide_eq_true h
      omega
    have i1 : ((i : Nat) : Int) < ((m.length : Nat) : Int) := by omega
    have hx : m[i]? = some m[i] := List.getElem?_eq_getElem hil
    have hdr : m.drop i = m[i] :: m.drop (i + 1) := List.drop_eq_getElem_cons hil
    obtain ⟨x, hxx⟩ : ∃ x, m[i] = x := ⟨_, rfl⟩
    rw [hxx] at hx hdr
    obtain ⟨b, o, hp, hok, hrd⟩ := row_at hr hx
    refine ⟨i0, i1, b, o, hp, x.1, trivial, rd_field hrd rfl, ?_⟩
    refine And.intro (fun h1 => ?_) (fun h1 => ?_)
    · have h1' : x.1 = l := by simpa using h1
      refine ⟨i0, i1, b, o, hp, x.2, trivial, rd_field hrd rfl, rfl, x.2, rfl, ?_⟩
      show x.2 = rAt m l
      rw [rAt_drop htk, hdr, rAt, if_pos h1']
    · have h1' : x.1 ≠ l := by simpa using h1
      refine ⟨((i + 1 : Nat) : Int), wrap_i64 (by omega) (by omega), i + 1, ⟨⟨?_, rfl⟩, rfl, Store.le_refl _⟩, ⟨hil, ?_⟩, ?_⟩
      · repeat' first | exact trivial | exact rfl | refine And.intro ?_ ?_
      · intro q hq
        rw [List.take_add_one, hx] at hq
        rcases List.mem_append.1 hq with hq | hq
        · exact htk q hq
        · have : q = x := by simpa using hq
          rw [this]; exact h1'
      · show m.length - (i + 1) < m.length - i
        omega
  · have hil : i = m.length := by
      have : ¬ ((i : Nat) : Int) < ((m.length : Nat) : Int) := of_decide_eq_false h
      omega
    refine ⟨rfl, 0, rfl, ?_⟩
    show 0 = rAt m l
    rw [rAt_drop htk, hil, List.drop_length, rAt]

/-- No number of a is above b's. -/
def rBelow (a b : List (Int × Int)) : Bool := a.all fun p => decide (p.2 ≤ rAt b p.1)

set_option maxHeartbeats 1000000 in
theorem ref_below_spec (S : Store) (p q : Hd) (a b : List (Int × Int)) (hl : a.length = p.2.1) (hr : RowRd S p.1 shP a) (hm : b.length = q.2.1) (hr' : RowRd S q.1 shP b) (hn : a.length ≤ 1000000) (hn' : b.length ≤ 1000000) :
    Pure Try.prog 19 S [slV p, slV q] rB (fun _ x => x = rBelow a b) := by
  obtain ⟨p, k, c⟩ := p
  simp only at hl hr
  subst hl
  refine pure_vc agrees Try.func19 rfl rfl (fun S S' q hle h => h) ?_
  refine ⟨[], [], Nat, List.range' 6 60, fun i => [(5, rI i)], fun _ => [], fun _ => S, fun i => i ≤ a.length ∧ ∀ q ∈ a.take i, q.2 ≤ rAt b q.1, fun i => a.length - i, ?_⟩
  refine And.intro (Exists.intro 0 (And.intro (And.intro (And.intro ?_ rfl) (And.intro rfl (Store.le_refl _))) (And.intro (Nat.zero_le _) (by simp)))) ?_
  · repeat' first | exact trivial | exact rfl | refine And.intro ?_ ?_
  rintro i ⟨hi, htk⟩
  have i0 : (0 : Int) ≤ ((i : Nat) : Int) := Int.natCast_nonneg _
  refine And.intro (fun h => ?_) (fun h => ?_)
  · have hil : i < a.length := by
      have : ((i : Nat) : Int) < ((a.length : Nat) : Int) := of_decide_eq_true h
      omega
    have i1 : ((i : Nat) : Int) < ((a.length : Nat) : Int) := by omega
    have hx : a[i]? = some a[i] := List.getElem?_eq_getElem hil
    have hxm : a[i] ∈ a := List.getElem_mem hil
    obtain ⟨x, hxx⟩ : ∃ x, a[i] = x := ⟨_, rfl⟩
    rw [hxx] at hx hxm
    obtain ⟨b1, o, hp, hok, hrd⟩ := row_at hr hx
    refine ⟨or19_4, [], oF19_4, by kernel_rfl, ?_⟩
    refine ⟨i0, i1, b1, o, hp, x.2, trivial, rd_field hrd rfl, i0, i1, b1, o, hp, x.1, trivial, rd_field hrd rfl, ⟨_, rfl, rfl, rfl⟩, .inl ⟨_, _, _, ref_at_spec S q b x.1 hm hr' hn', fun S1 v hS1 hv => ?_⟩⟩
    have hv : v = rAt b x.1 := hv
    subst hv
    refine And.intro (fun h1 => ?_) (fun h1 => ?_)
    · have h1' : x.2 > rAt b x.1 := of_decide_eq_true h1
      refine ⟨rfl, false, rfl, ?_⟩
      show false = rBelow a b
      symm
      rw [rBelow, List.all_eq_false]
      exact ⟨x, hxm, by simp; omega⟩
    · have h1' : ¬ x.2 > rAt b x.1 := of_decide_eq_false h1
      refine ⟨((i + 1 : Nat) : Int), wrap_i64 (by omega) (by omega), i + 1, ⟨⟨?_, rfl⟩, rfl, hS1⟩, ⟨hil, ?_⟩, ?_⟩
      · repeat' first | exact trivial | exact rfl | refine And.intro ?_ ?_
      · intro q hq
        rw [List.take_add_one, hx] at hq
        rcases List.mem_append.1 hq with hq | hq
        · exact htk q hq
        · have : q = x := by simpa using hq
          rw [this]; omega
      · show a.length - (i + 1) < a.length - i
        omega
  · have hil : i = a.length := by
      have : ¬ ((i : Nat) : Int) < ((a.length : Nat) : Int) := of_decide_eq_false h
      omega
    rw [hil, List.take_length] at htk
    refine ⟨rfl, true, rfl, ?_⟩
    show true = rBelow a b
    symm
    rw [rBelow, List.all_eq_true]
    exact fun p hp => decide_eq_true (htk p hp)
end Go.Proofs.Ytjcbbmibcbiedaa

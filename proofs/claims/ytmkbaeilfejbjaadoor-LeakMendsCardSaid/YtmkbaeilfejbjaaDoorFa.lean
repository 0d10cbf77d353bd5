/- law16: numbers in rows: what Same and In compute. -/
import Derived.Test.YtmkbaeilfejbjaaDoorTt
import Derived.Test.YtmkbaeilfejbjaaDoorVcN
import Derived.Test.YtmkbaeilfejbjaaDoorOr
namespace Go.Proofs.YtmkbaeilfejbjaaDoor
open Go Go.Vc
set_option maxRecDepth 100000

@[reducible] def shI : Shape := .int .i64
@[reducible] def rB (b : Bool) : SV := .c (.v (.bool b))
@[reducible] def rI (n : Int) : SV := .c (.v (.int .i64 n))
abbrev Hd := Option Addr × Nat × Nat
/-- A slice as it is handed on. -/
@[reducible] def slV (p : Hd) : Value := .slice p.1 p.2.1 p.2.2

set_option maxHeartbeats 1000000 in
theorem same_spec (S : Store) (p q : Hd) (l m : List Int) (hl : l.length = p.2.1) (hr : RowRd S p.1 shI l) (hm : m.length = q.2.1) (hr' : RowRd S q.1 shI m) (hn : l.length ≤ 1000000) :
    Pure Tryd.prog 8 S [slV p, slV q] rB (fun _ x => x = decide (l = m)) := by
  obtain ⟨p, n, c⟩ := p
  obtain ⟨q, n', c'⟩ := q
  simp only at hl hr hm hr'
  subst hl hm
  refine pure_vc agrees Tryd.func8 rfl rfl (fun S S' q hle h => h) ?_
  refine And.intro (fun h => And.intro rfl (Exists.intro _ (And.intro rfl ?_))) (fun h => ?_)
  · show false = decide (l = m)
    symm
    simp only [decide_eq_false_iff_not]
    rintro rfl
    simp at h
  have hlm : l.length = m.length := by
    have : (l.length : Int) = m.length := by simpa using h
    omega
  refine ⟨[], [], Nat, List.range' 6 30, fun i => [(5, .c (.v (.int .i64 i)))], fun i => [], fun _ => S, fun i => i ≤ l.length ∧ l.take i = m.take i, fun i => l.length - i, ?_⟩
  refine And.intro (Exists.intro 0 (And.intro (And.intro (And.intro ?_ rfl) (And.intro rfl (Store.le_refl _))) (And.intro (Nat.zero_le _) rfl))) ?_
  · repeat' first | exact trivial | exact rfl | refine And.intro ?_ ?_
  rintro i ⟨hi, htk⟩
  refine And.intro (fun h => ?_) (fun h => ?_)
  · have hil : i < l.length := by simpa using h
    have hx : l[i]? = some l[i] := List.getElem?_eq_getElem hil
    have hy : m[i]? = some m[i] := List.getElem?_eq_getElem (by omega)
    obtain ⟨b, o, hp, hok, hrd⟩ := row_at hr hx
    obtain ⟨b', o', hp', hok', hrd'⟩ := row_at hr' hy
    refine ⟨or8_6, [], [], by kernel_rfl, ?_⟩
    refine ⟨Int.natCast_nonneg _, by simpa using h, b, o, hp, l[i], hok, hrd, Int.natCast_nonneg _, by show (i : Int) < m.length; omega, b', o', hp', m[i], hok', hrd', ?_⟩
    refine And.intro (fun h1 => ?_) (fun h1 => ?_)
    · refine And.intro rfl (Exists.intro false (And.intro rfl ?_))
      show false = decide (l = m)
      symm
      simp only [decide_eq_false_iff_not]
      rintro rfl
      simp at h1
    · refine ⟨((i + 1 : Nat) : Int), wrap_i64 (by omega) (by omega), i + 1, ⟨⟨?_, rfl⟩, rfl, Store.le_refl _⟩, ⟨hil, ?_⟩, ?_⟩
      · repeat' first | exact trivial | exact rfl | refine And.intro ?_ ?_
      · have he : l[i] = m[i] := by simpa using h1
        rw [List.take_add_one, List.take_add_one, hx, hy, htk, he]
      · show l.length - (i + 1) < l.length - i
        omega
  · refine And.intro rfl (Exists.intro true (And.intro rfl ?_))
    show true = decide (l = m)
    symm
    have hil : i = l.length := by have : ¬ i < l.length := by simpa using h
                                  omega
    subst hil
    rw [List.take_length, hlm, List.take_length] at htk
    simp [htk]

set_option maxHeartbeats 1000000 in
theorem in_spec (S : Store) (p : Hd) (l : List Int) (n : Int) (hl : l.length = p.2.1) (hr : RowRd S p.1 shI l) (hn : l.length ≤ 1000000) :
    Pure Tryd.prog 25 S [slV p, .int .i64 n] rB (fun _ x => x = decide (n ∈ l)) := by
  obtain ⟨p, k, c⟩ := p
  simp only at hl hr
  subst hl
  refine pure_vc agrees Tryd.func25 rfl rfl (fun S S' q hle h => h) ?_
  refine ⟨[], [], Nat, List.range' 6 30, fun i => [(5, .c (.v (.int .i64 i)))], fun i => [], fun _ => S, fun i => i ≤ l.length ∧ n ∉ l.take i, fun i => l.length - i, ?_⟩
  refine And.intro (Exists.intro 0 (And.intro (And.intro (And.intro ?_ rfl) (And.intro rfl (Store.le_refl _))) (And.intro (Nat.zero_le _) (by simp)))) ?_
  · repeat' first | exact trivial | exact rfl | refine And.intro ?_ ?_
  rintro i ⟨hi, htk⟩
  refine And.intro (fun h => ?_) (fun h => ?_)
  · have hil : i < l.length := by simpa using h
    have hx : l[i]? = some l[i] := List.getElem?_eq_getElem hil
    obtain ⟨b, o, hp, hok, hrd⟩ := row_at hr hx
    refine ⟨Int.natCast_nonneg _, by simpa using h, b, o, hp, l[i], hok, hrd, ?_⟩
    refine And.intro (fun h1 => ?_) (fun h1 => ?_)
    · refine And.intro rfl (Exists.intro true (And.intro rfl ?_))
      show true = decide (n ∈ l)
      symm
      have h1' : l[i] = n := by simpa using h1
      rw [decide_eq_true_eq, ← h1']
      exact List.getElem_mem hil
    · refine ⟨((i + 1 : Nat) : Int), wrap_i64 (by omega) (by omega), i + 1, ⟨⟨?_, rfl⟩, rfl, Store.le_refl _⟩, ⟨hil, ?_⟩, ?_⟩
      · repeat' first | exact trivial | exact rfl | refine And.intro ?_ ?_
      · have he : l[i] ≠ n := by simpa using h1
        rw [List.take_add_one, hx]
        simp only [Option.toList_some, List.mem_append, List.mem_singleton, not_or]
        exact ⟨htk, fun e => he e.symm⟩
      · show l.length - (i + 1) < l.length - i
        omega
  · refine And.intro rfl (Exists.intro false (And.intro rfl ?_))
    show false = decide (n ∈ l)
    symm
    have hil : i = l.length := by have : ¬ i < l.length := by simpa using h
                                  omega
    subst hil
    rw [List.take_length] at htk
    simp [htk]
end Go.Proofs.YtmkbaeilfejbjaaDoor

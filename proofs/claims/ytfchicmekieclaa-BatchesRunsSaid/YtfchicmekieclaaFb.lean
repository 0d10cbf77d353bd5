/- law54: loops. -/
import Derived.Test.YtfchicmekieclaaFa
import Derived.Test.YtfchicmekieclaaVcN
namespace Go.Proofs.Ytfchicmekieclaa
open Go Go.Vc
set_option maxRecDepth 100000

@[reducible] def shP : Shape := .pair (.int .i64) (.pair (.int .i64) (.int .i64))

/-- A slice as it is handed on. -/
@[reducible] def slV (p : Option Addr × Nat × Nat) : Value := .slice p.1 p.2.1 p.2.2

set_option maxHeartbeats 1000000 in
theorem of_spec (S : Store) (p : Option Addr × Nat × Nat) (l : List O) (hl : l.length = p.2.1) (hr : RowRd S p.1 shO l) (hn : l.length ≤ 1000000) :
    Pure Try.prog 14 S [slV p] (A := Option Addr × Nat × Nat) (fun q => .c (.v (slV q))) (fun S' q => q.2.1 = l.length ∧ RowRd S' q.1 shO l) := by
  obtain ⟨p, n, c⟩ := p
  simp only at hl hr
  subst hl
  refine pure_vc agrees Try.func14 rfl rfl (fun S S' q hle h => ⟨h.1, h.2.le hle⟩) ?_
  refine ⟨[], [(3, shO, 32)], Nat, [5,6,7,8,9,10,11,12,13,14,15,16,17], fun i => [(3, .c (.ref 0)), (4, .c (.v (.int .i64 i)))], fun i => [.row shO 32 (l.take i)], fun _ => S, fun i => i ≤ l.length, fun i => l.length - i, ?_⟩
  refine And.intro (Exists.intro 0 (And.intro (And.intro (And.intro ?_ rfl) (And.intro rfl (Store.le_refl _))) (Nat.zero_le _))) ?_
  · repeat' first | exact trivial | exact rfl | refine And.intro ?_ ?_
  · refine fun i hi => ?_
    refine And.intro (fun h => ?_) (fun h => ?_)
    · have hil : i < l.length := by simpa using h
      have hx : l[i]? = some l[i] := List.getElem?_eq_getElem hil
      obtain ⟨b, o, hp, hok, hrd⟩ := row_at hr hx
      refine ⟨Int.natCast_nonneg _, by simpa using h, b, o, hp, l[i], hok, hrd, [l[i]], ⟨rfl, rfl⟩, fun y _ => ⟨trivial, trivial, trivial⟩, ?_, ((i + 1 : Nat) : Int), wrap_i64 (by omega) (by omega), i + 1, ⟨⟨?_, rfl⟩, ?_, Store.le_refl _⟩, hil, ?_⟩
      · show ((l.take i).length + 1) * 24 ≤ _
        simp only [List.length_take]; omega
      · repeat' first | exact trivial | exact rfl | refine And.intro ?_ ?_
      · show [Res.row shO 32 (l.take i ++ [l[i]])] = [Res.row shO 32 (l.take (i + 1))]
        rw [List.take_add_one, hx]; rfl
      · show l.length - (i + 1) < l.length - i
        omega
    · refine fun q cap S' hS hrd => And.intro rfl (Exists.intro (q, _, _) (And.intro rfl ?_))
      have hil : i = l.length := by have : ¬ i < l.length := by simpa using h
                                    have hi' : i ≤ l.length := hi
                                    omega
      subst hil
      rw [List.take_length] at hrd ⊢
      exact ⟨rfl, hrd⟩

theorem great_spec (S : Store) (b : Option Nat) (es : List (Int × Int)) (hm : MapRd S b (.int .i64) (.int .i64) es) (p : Option Addr × Nat × Nat) :
    Pure Try.prog 9 S [.map b, slV p] rB (fun _ x => x = (bif decide ((es.length : Int) > 60) then true else decide ((p.2.1 : Int) > 60))) := by
  obtain ⟨p, n, c⟩ := p
  refine pure_vc agrees Try.func9 rfl rfl (fun _ _ _ _ h => h) ?_
  refine ⟨es, hm, ?_⟩
  refine And.intro (fun h => And.intro rfl (Exists.intro _ (And.intro rfl ?_))) (fun h => And.intro rfl (Exists.intro _ (And.intro rfl ?_)))
  · have h' : decide ((es.length : Int) > 60) = true := h
    show true = _
    rw [h']; rfl
  · have h' : decide ((es.length : Int) > 60) = false := h
    show _ = bif _ then _ else _
    rw [h']; rfl

/-- Two lists of operations, compared. -/
def alike (a b : List O) : Bool := decide (a = b)

set_option maxHeartbeats 1000000 in
theorem alike_spec (S : Store) (p q : Option Addr × Nat × Nat) (l m : List O) (hl : l.length = p.2.1) (hr : RowRd S p.1 shO l) (hm : m.length = q.2.1) (hr' : RowRd S q.1 shO m) (hn : l.length ≤ 1000000) :
    Pure Try.prog 20 S [slV p, slV q] rB (fun _ x => x = alike l m) := by
  obtain ⟨p, n, c⟩ := p
  obtain ⟨q, n', c'⟩ := q
  simp only at hl hr hm hr'
  subst hl hm
  refine pure_vc agrees Try.func20 rfl rfl (fun S S' q hle h => h) ?_
  refine And.intro (fun h => And.intro rfl (Exists.intro _ (And.intro rfl ?_))) (fun h => ?_)
  · show false = alike l m
    symm
    simp only [alike, decide_eq_false_iff_not]
    rintro rfl
    simp at h
  have hlm : l.length = m.length := by
    have : (l.length : Int) = m.length := by simpa using h
    omega
  refine ⟨[], [], Nat, [11,12,13,14,15,16,17,18,19,20,21,22,23,24,25], fun i => [(5, .c (.v (.int .i64 i)))], fun i => [], fun _ => S, fun i => i ≤ l.length ∧ l.take i = m.take i, fun i => l.length - i, ?_⟩
  refine And.intro (Exists.intro 0 (And.intro (And.intro (And.intro ?_ rfl) (And.intro rfl (Store.le_refl _))) (And.intro (Nat.zero_le _) rfl))) ?_
  · repeat' first | exact trivial | exact rfl | refine And.intro ?_ ?_
  rintro i ⟨hi, htk⟩
  refine And.intro (fun h => ?_) (fun h => ?_)
  · have hil : i < l.length := by simpa using h
    have hx : l[i]? = some l[i] := List.getElem?_eq_getElem hil
    have hy : m[i]? = some m[i] := List.getElem?_eq_getElem (by omega)
    obtain ⟨b, o, hp, hok, hrd⟩ := row_at hr hx
    obtain ⟨b', o', hp', hok', hrd'⟩ := row_at hr' hy
    refine ⟨.of [0, 1, 2, 3, 4, 5, 6, 7, 8], [], [], by kernel_rfl, ?_⟩
    refine ⟨Int.natCast_nonneg _, by simpa using h, b, o, hp, l[i], hok, hrd, Int.natCast_nonneg _, by show (i : Int) < m.length; omega, b', o', hp', m[i], hok', hrd', ?_⟩
    refine And.intro (fun h1 => ?_) (fun h1 => ?_)
    · refine And.intro rfl (Exists.intro false (And.intro rfl ?_))
      show false = alike l m
      symm
      simp only [alike, decide_eq_false_iff_not]
      rintro rfl
      simp at h1
    · refine ⟨((i + 1 : Nat) : Int), wrap_i64 (by omega) (by omega), i + 1, ⟨⟨?_, rfl⟩, rfl, Store.le_refl _⟩, ⟨hil, ?_⟩, ?_⟩
      · repeat' first | exact trivial | exact rfl | refine And.intro ?_ ?_
      · have he : l[i] = m[i] := by
          simp at h1
          exact Prod.ext h1.1 (Prod.ext h1.2.1 h1.2.2)
        rw [List.take_add_one, List.take_add_one, hx, hy, htk, he]
      · show l.length - (i + 1) < l.length - i
        omega
  · refine And.intro rfl (Exists.intro true (And.intro rfl ?_))
    show true = alike l m
    symm
    have hil : i = l.length := by have : ¬ i < l.length := by simpa using h
                                  omega
    subst hil
    rw [List.take_length, hlm, List.take_length] at htk
    simp [alike, htk]
end Go.Proofs.Ytfchicmekieclaa

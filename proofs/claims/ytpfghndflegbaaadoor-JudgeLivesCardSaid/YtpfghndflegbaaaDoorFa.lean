/- law58: the reference's lists. -/
import Derived.Test.YtpfghndflegbaaaDoorTt
import Derived.Test.YtpfghndflegbaaaDoorVcN
import Derived.Test.YtpfghndflegbaaaDoorOr
namespace Go.Proofs.YtpfghndflegbaaaDoor
open Go Go.Vc
set_option maxRecDepth 100000

@[reducible] def shI : Shape := .int .i64
/-- An event: kind, thread, number, call, answer. -/
@[reducible] def shE : Shape := .st (.pair (.int .i64) (.pair (.int .i64) (.pair (.int .i64) (.pair (.st (.pair .str .slice)) (.st (.pair (.int .i64) (.int .i64)))))))
@[reducible] def rB (b : Bool) : SV := .c (.v (.bool b))
@[reducible] def rI (n : Int) : SV := .c (.v (.int .i64 n))
abbrev Hd := Option Addr × Nat × Nat
@[reducible] def slV (p : Hd) : Value := .slice p.1 p.2.1 p.2.2
theorem onE {b : Bool} {p q : Prop} (hb : b = true) (h : p) : (b = true → p) ∧ (b = false → q) := ⟨fun _ => h, fun e => (by rw [hb] at e; cases e)⟩
theorem offE {b : Bool} {p q : Prop} (hb : b = false) (h : q) : (b = true → p) ∧ (b = false → q) := ⟨fun e => (by rw [hb] at e; cases e), fun _ => h⟩
def inI64 (x : Int) : Prop := -9223372036854775808 ≤ x ∧ x ≤ 9223372036854775807

theorem in_spec (S : Store) (p : Hd) (l : List Int) (x : Int) (hl : l.length = p.2.1) (hr : RowRd S p.1 shI l) (hn : l.length ≤ 1000000) : Pure Tryd.prog 36 S [slV p, .int .i64 x] rB (fun _ b => b = decide (x ∈ l)) := by
  obtain ⟨p, n, c⟩ := p
  simp only at hl hr
  subst hl
  refine pure_vc agrees Tryd.func36 rfl rfl (fun S S' q hle h => h) ?_
  refine ⟨[], [], Nat, List.range' 6 12, fun i => [(5, rI i)], fun _ => [], fun _ => S, fun i => i ≤ l.length ∧ x ∉ l.take i, fun i => l.length - i, ?_⟩
  refine And.intro (Exists.intro 0 (And.intro (And.intro (And.intro ?_ rfl) (And.intro rfl (Store.le_refl _))) ⟨Nat.zero_le _, by simp⟩)) ?_
  · repeat' first | exact trivial | exact rfl | refine And.intro ?_ ?_
  rintro i ⟨hi, hni⟩
  have i0 : (0 : Int) ≤ ((i : Nat) : Int) := Int.natCast_nonneg _
  refine And.intro (fun h => ?_) (fun h => ?_)
  · have hil : i < l.length := by
      have : ((i : Nat) : Int) < ((l.length : Nat) : Int) := of_decide_eq_true h
      omega
    obtain ⟨y, hy⟩ : ∃ y, l[i]? = some y := ⟨_, List.getElem?_eq_getElem hil⟩
    obtain ⟨b, o, hp, hok, hrd⟩ := row_at hr hy
    have htk : l.take (i + 1) = l.take i ++ [y] := by rw [List.take_add_one, hy]; rfl
    refine ⟨i0, by show ((i : Nat) : Int) < (l.length : Int); omega, b, o, hp, y, hok, hrd, ?_⟩
    by_cases e : y = x
    · refine onE (beq_iff_eq.2 e) ⟨rfl, true, rfl, ?_⟩
      subst e
      exact (decide_eq_true (List.mem_of_getElem? hy)).symm
    · refine offE (beq_eq_false_iff_ne.2 e) ⟨((i + 1 : Nat) : Int), wrap_i64 (by omega) (by omega), i + 1, ⟨⟨?_, rfl⟩, rfl, Store.le_refl _⟩, ⟨hil, ?_⟩, by show l.length - (i + 1) < l.length - i; omega⟩
      · repeat' first | exact trivial | exact rfl | refine And.intro ?_ ?_
      · rw [htk]
        simp only [List.mem_append, List.mem_singleton, not_or]
        exact ⟨hni, fun q => e q.symm⟩
  · have hil : i = l.length := by
      have : ¬ ((i : Nat) : Int) < ((l.length : Nat) : Int) := of_decide_eq_false h
      omega
    subst hil
    refine ⟨rfl, false, rfl, ?_⟩
    rw [List.take_length] at hni
    exact (decide_eq_false hni).symm
end Go.Proofs.YtpfghndflegbaaaDoor

/- law58: the law's same. -/
import Derived.Test.YtpfghndflegbaaaDoorFe
namespace Go.Proofs.YtpfghndflegbaaaDoor
open Go Go.Vc
set_option maxRecDepth 100000

theorem same_spec (S : Store) (p q : Hd) (l m : List Int) (hl : l.length = p.2.1) (hm : m.length = q.2.1) (hr : RowRd S p.1 shI l) (hr2 : RowRd S q.1 shI m) (hn : l.length ≤ 1000000) (hn2 : m.length ≤ 1000000) :
    Pure Tryd.prog 15 S [slV p, slV q] rB (fun _ b => b = decide (l = m)) := by
  obtain ⟨p, n, c⟩ := p
  obtain ⟨q, n2, c2⟩ := q
  simp only at hl hm hr hr2
  subst hl hm
  refine pure_vc agrees Tryd.func15 rfl rfl (fun S S' q hle h => h) ?_
  by_cases hlen : l.length = m.length
  · refine offE (by show (!((l.length : Int) == (m.length : Int))) = false; rw [hlen]; simp) ?_
    refine ⟨[], [], Nat, List.range' 11 15, fun i => [(5, rI i)], fun _ => [], fun _ => S, fun i => i ≤ l.length ∧ l.take i = m.take i, fun i => l.length - i, ?_⟩
    refine And.intro (Exists.intro 0 (And.intro (And.intro (And.intro ?_ rfl) (And.intro rfl (Store.le_refl _))) ⟨Nat.zero_le _, rfl⟩)) ?_
    · repeat' first | exact trivial | exact rfl | refine And.intro ?_ ?_
    rintro i ⟨hi, heq⟩
    have i0 : (0 : Int) ≤ ((i : Nat) : Int) := Int.natCast_nonneg _
    refine And.intro (fun h => ?_) (fun h => ?_)
    · have hil : i < l.length := by
        have : ((i : Nat) : Int) < ((l.length : Nat) : Int) := of_decide_eq_true h
        omega
      obtain ⟨y, hy⟩ : ∃ y, l[i]? = some y := ⟨_, List.getElem?_eq_getElem hil⟩
      obtain ⟨z, hz⟩ : ∃ z, m[i]? = some z := ⟨_, List.getElem?_eq_getElem (by omega)⟩
      obtain ⟨b, o, hp, hok, hrd⟩ := row_at hr hy
      obtain ⟨b2, o2, hp2, hok2, hrd2⟩ := row_at hr2 hz
      refine ⟨or15_6, [], oF15_6, by kernel_rfl, ?_⟩
      refine ⟨i0, by show ((i : Nat) : Int) < (l.length : Int); omega, b, o, hp, y, hok, hrd, i0, by show ((i : Nat) : Int) < (m.length : Int); omega, b2, o2, hp2, z, hok2, hrd2, ?_⟩
      by_cases e : y = z
      · refine offE (by subst e; simp) ⟨((i + 1 : Nat) : Int), wrap_i64 (by omega) (by omega), i + 1, ⟨⟨?_, rfl⟩, rfl, Store.le_refl _⟩, ⟨hil, by rw [List.take_add_one, List.take_add_one, heq, hy, hz, e]⟩, by show l.length - (i + 1) < l.length - i; omega⟩
        repeat' first | exact trivial | exact rfl | refine And.intro ?_ ?_
      · refine onE (by simpa using e) ⟨rfl, false, rfl, (decide_eq_false fun q => e ?_).symm⟩
        rw [q, hz] at hy
        exact (Option.some.inj hy).symm
    · have hil : i = l.length := by
        have : ¬ ((i : Nat) : Int) < ((l.length : Nat) : Int) := of_decide_eq_false h
        omega
      subst hil
      refine ⟨rfl, true, rfl, (decide_eq_true ?_).symm⟩
      rw [List.take_length, hlen, List.take_length] at heq
      exact heq
  · refine onE (by show (!((l.length : Int) == (m.length : Int))) = true; simp; omega) ⟨rfl, false, rfl, (decide_eq_false fun q => hlen (by rw [q])).symm⟩
end Go.Proofs.YtpfghndflegbaaaDoor

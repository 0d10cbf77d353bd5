/- law58: the reference's End. -/
import Derived.Test.YtpfghndflegbaaaDoorFb
namespace Go.Proofs.YtpfghndflegbaaaDoor
open Go Go.Vc
set_option maxRecDepth 100000

/-- Where a call of thread t ends, from place i on, and whether by an answer. -/
def endE (t : Int) : Nat → List shE.T → Nat × Bool
  | i, [] => (i, false)
  | i, e :: r => if e.1 = 3 then (i, false) else if e.1 = 1 ∧ e.2.1 = t then (i, true) else endE t (i + 1) r
@[reducible] def rEnd (q : Nat × Bool) : SV := .tup [(false, [.v (.int .i64 q.1)]), (false, [.v (.bool q.2)])]
theorem end_spec (S : Store) (p : Hd) (l : List shE.T) (k : Nat) (x : shE.T) (hl : l.length = p.2.1) (hr : RowRd S p.1 shE l) (hn : l.length ≤ 1000000) (hk : l[k]? = some x) :
    Pure Tryd.prog 38 S [slV p, .int .i64 k] (A := Unit) (fun _ => rEnd (endE x.2.1 (k + 1) (l.drop (k + 1)))) (fun _ _ => True) := by
  obtain ⟨p, n, c⟩ := p
  simp only at hl hr
  subst hl
  have hkl := (List.getElem?_eq_some_iff.1 hk).1
  refine pure_vc agrees Tryd.func38 rfl rfl (fun S S' q hle h => h) ?_
  refine ⟨((k + 1 : Nat) : Int), wrap_i64 (by omega) (by omega), ?_⟩
  refine ⟨[], [], Nat, List.range' 9 35, fun i => [(6, rI i)], fun _ => [], fun _ => S, fun i => i ≤ l.length ∧ endE x.2.1 i (l.drop i) = endE x.2.1 (k + 1) (l.drop (k + 1)), fun i => l.length - i, ?_⟩
  refine And.intro (Exists.intro (k + 1) (And.intro (And.intro (And.intro ?_ rfl) (And.intro rfl (Store.le_refl _))) ⟨hkl, rfl⟩)) ?_
  · repeat' first | exact trivial | exact rfl | refine And.intro ?_ ?_
  rintro i ⟨hi, hinv⟩
  have i0 : (0 : Int) ≤ ((i : Nat) : Int) := Int.natCast_nonneg _
  refine And.intro (fun h => ?_) (fun h => ?_)
  · have hil : i < l.length := by
      have : ((i : Nat) : Int) < ((l.length : Nat) : Int) := of_decide_eq_true h
      omega
    obtain ⟨y, hy⟩ : ∃ y, l[i]? = some y := ⟨_, List.getElem?_eq_getElem hil⟩
    obtain ⟨b, o, hp, hok, hrd⟩ := row_at hr hy
    have hd : l.drop i = y :: l.drop (i + 1) := by
      rw [List.drop_eq_getElem_cons hil]
      congr 1
      rw [List.getElem?_eq_getElem hil] at hy
      exact Option.some.inj hy
    rw [hd, endE] at hinv
    refine ⟨i0, by show ((i : Nat) : Int) < (l.length : Int); omega, b, o, hp, y.1, trivial, rd_field (f := 0) hrd rfl, ?_⟩
    by_cases e3 : y.1 = 3
    · rw [if_pos e3] at hinv
      refine onE (beq_iff_eq.2 e3) ⟨rfl, (), ?_, trivial⟩
      rw [← hinv]; rfl
    · rw [if_neg e3] at hinv
      refine offE (beq_eq_false_iff_ne.2 e3) ?_
      refine ⟨or38_6, [], oF38_6, by kernel_rfl, ?_⟩
      obtain ⟨bk, ok, hpk, hokk, hrdk⟩ := row_at hr hk
      have k0 : (0 : Int) ≤ ((k : Nat) : Int) := Int.natCast_nonneg _
      refine ⟨i0, by show ((i : Nat) : Int) < (l.length : Int); omega, b, o, hp, y.1, trivial, rd_field (f := 0) hrd rfl, ?_⟩
      have next : ¬ (y.1 = 1 ∧ y.2.1 = x.2.1) → endE x.2.1 (i + 1) (l.drop (i + 1)) = endE x.2.1 (k + 1) (l.drop (k + 1)) := fun q => by rw [if_neg q] at hinv; exact hinv
      by_cases e1 : y.1 = 1
      · refine onE (beq_iff_eq.2 e1) ⟨i0, by show ((i : Nat) : Int) < (l.length : Int); omega, b, o, hp, y.2.1, trivial, rd_field (f := 1) hrd rfl, k0, by show ((k : Nat) : Int) < (l.length : Int); omega, bk, ok, hpk, x.2.1, trivial, rd_field (f := 1) hrdk rfl, ?_⟩
        by_cases e2 : y.2.1 = x.2.1
        · rw [if_pos ⟨e1, e2⟩] at hinv
          refine onE (beq_iff_eq.2 e2) ⟨rfl, (), ?_, trivial⟩
          rw [← hinv]; rfl
        · refine offE (beq_eq_false_iff_ne.2 e2) ⟨((i + 1 : Nat) : Int), wrap_i64 (by omega) (by omega), i + 1, ⟨⟨?_, rfl⟩, rfl, Store.le_refl _⟩, ⟨hil, next fun q => e2 q.2⟩, by show l.length - (i + 1) < l.length - i; omega⟩
          repeat' first | exact trivial | exact rfl | refine And.intro ?_ ?_
      · refine offE (beq_eq_false_iff_ne.2 e1) (offE rfl ⟨((i + 1 : Nat) : Int), wrap_i64 (by omega) (by omega), i + 1, ⟨⟨?_, rfl⟩, rfl, Store.le_refl _⟩, ⟨hil, next fun q => e1 q.1⟩, by show l.length - (i + 1) < l.length - i; omega⟩)
        repeat' first | exact trivial | exact rfl | refine And.intro ?_ ?_
  · have hil : i = l.length := by
      have : ¬ ((i : Nat) : Int) < ((l.length : Nat) : Int) := of_decide_eq_false h
      omega
    subst hil
    rw [List.drop_length, endE] at hinv
    refine ⟨rfl, (), ?_, trivial⟩
    rw [← hinv]; rfl
end Go.Proofs.YtpfghndflegbaaaDoor

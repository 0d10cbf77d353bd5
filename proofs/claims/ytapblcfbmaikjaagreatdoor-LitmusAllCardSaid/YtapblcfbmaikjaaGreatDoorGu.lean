/- law09: short (10). -/
import Derived.Test.YtapblcfbmaikjaaGreatDoorGf
namespace Go.Proofs.YtapblcfbmaikjaaGreatDoor
open Go Go.Vc Go.Sort Go.RowKit Go.Maps
set_option maxRecDepth 100000
set_option maxHeartbeats 8000000

def Short (first : List Li.Wd) (T : List (List Li.Act)) : Prop := first.length ≤ 8 ∧ T.length ≤ 8 ∧ ∀ l ∈ T, l.length ≤ 8
theorem short_spec (S : Store) (x : Tz) (first : List Li.Wd) (T : List (List Li.Act)) (hx : TestIs S x first T) : Pure Tryz.prog 10 S [vT x] (A := Bool) rB (fun _ b => b = true → Short first T) := by
  have hfl := hx.f.len
  have htl := hx.t.len
  have hth := hx.t
  obtain ⟨⟨fp, fn, fc⟩, ⟨p, n, c⟩⟩ := x
  have hfl : fn = first.length := hfl
  have htl : n = T.length := htl
  subst hfl htl
  refine pure_vc agrees Tryz.func10 rfl rfl (fun S S' q hle h => h) ?_
  refine ⟨[], [], Nat, List.range' 4 18, fun i => [(3, rI i)], fun _ => [.box [.v (.slice fp first.length fc), .v (.slice p T.length c)]], fun _ => S, fun i => (i ≤ T.length ∧ i ≤ 8) ∧ ∀ l ∈ T.take i, l.length ≤ 8, fun i => T.length - i, ?_⟩
  refine And.intro (Exists.intro 0 (And.intro (And.intro (And.intro ?_ rfl) (And.intro rfl (Store.le_refl _))) ⟨⟨Nat.zero_le _, Nat.zero_le _⟩, fun l hl => by simp at hl⟩)) ?_
  · repeat' first | exact trivial | exact rfl | refine And.intro ?_ ?_
  rintro i ⟨⟨hi, hi8⟩, hz⟩
  have fin : (T.length ≤ 8 → ∀ l ∈ T, l.length ≤ 8) → ∀ b : Bool, (b = true → T.length ≤ 8 ∧ first.length ≤ 8) → b = true → Short first T := fun h b hb q => ⟨(hb q).2, (hb q).1, h (hb q).1⟩
  refine And.intro (fun h1 => ?_) (fun h1 => ?_)
  · have h1 : (i : Int) < ((T.length : Nat) : Int) := of_decide_eq_true h1
    refine And.intro (fun h2 => ?_) (fun h2 => ?_)
    · have h2 : (i : Int) < 8 := of_decide_eq_true h2
      obtain ⟨⟨qp, qn, qc⟩, y, b, o, hy, hqy, hp, hok, hrd⟩ := hth.at (i := i) (by omega)
      have hql : qn = y.length := hqy.len
      subst hql
      refine ⟨Int.natCast_nonneg _, h1, b, o, hp, ((qp, y.length, qc) : Hd), hok, hrd, ?_⟩
      by_cases h3 : ((y.length : Nat) : Int) > 8
      · refine onE (decide_eq_true h3) ⟨rfl, false, rfl, fun q => by cases q⟩
      · refine offE (decide_eq_false h3) ?_
        refine ⟨((i + 1 : Nat) : Int), wrap_i64 (by omega) (by omega), i + 1, ⟨⟨?_, rfl⟩, rfl, Store.le_refl _⟩, ⟨⟨by omega, by omega⟩, take_more hy hz (by omega)⟩, by show T.length - (i + 1) < T.length - i; omega⟩
        repeat' first | exact trivial | exact rfl | refine And.intro ?_ ?_
    · have h2 : ¬ (i : Int) < 8 := of_decide_eq_false h2
      have hall : T.length ≤ 8 → ∀ l ∈ T, l.length ≤ 8 := fun h => by omega
      refine And.intro (fun h4 => ?_) (fun h4 => ?_)
      · have h4 : ((T.length : Nat) : Int) ≤ 8 := of_decide_eq_true h4
        exact ⟨rfl, _, rfl, fin hall _ fun q => ⟨by omega, by have : ((first.length : Nat) : Int) ≤ 8 := of_decide_eq_true q; omega⟩⟩
      · exact ⟨rfl, false, rfl, fun q => by cases q⟩
  · have h1 : ¬ (i : Int) < ((T.length : Nat) : Int) := of_decide_eq_false h1
    have hil : i = T.length := by omega
    subst hil
    rw [List.take_length] at hz
    refine onF ?_
    refine And.intro (fun h4 => ?_) (fun h4 => ?_)
    · have h4 : ((T.length : Nat) : Int) ≤ 8 := of_decide_eq_true h4
      exact ⟨rfl, _, rfl, fin (fun _ => hz) _ fun q => ⟨by omega, by have : ((first.length : Nat) : Int) ≤ 8 := of_decide_eq_true q; omega⟩⟩
    · exact ⟨rfl, false, rfl, fun q => by cases q⟩
end Go.Proofs.YtapblcfbmaikjaaGreatDoor

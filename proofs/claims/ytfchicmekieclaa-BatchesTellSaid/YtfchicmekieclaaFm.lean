/- law54: the laws: Tell. -/
import Derived.Test.YtfchicmekieclaaFl
namespace Go.Proofs.Ytfchicmekieclaa
open Go Go.Vc
set_option maxRecDepth 100000

def orTell : Vc.Ord := .op 0 (.op 1 (.op 2 (.op 5 (.op 6 (.op 3 (.op 4 (.op 7 (.op 8 (.alt 9 (.op 10 (.op 11 (.op 12 .done))) (.alt 10 (.op 9 (.op 11 (.op 12 .done))) .stop))))))))))

set_option maxHeartbeats 16000000 in
theorem law_tell (S : Store) (b : Option Nat) (m : M) (hm : MapRd S b (.int .i64) (.int .i64) m) (h1 : once m) (p : Hd) (l : List O) (hl : l.length = p.2.1) (hr : RowRd S p.1 shO l) :
    Pure Try.prog 3 S [.map b, slV p] rB (fun _ x => x = true) := by
  obtain ⟨p, n, c⟩ := p
  simp only at hl hr
  subst hl
  refine pure_vc agrees Try.func3 rfl rfl (fun _ _ _ _ h => h) ?_
  refine ⟨⟨_, rfl, rfl, rfl⟩, .inl ⟨_, _, _, great_spec S b m hm (p, l.length, c), fun S0 x hS0 hx => ?_⟩⟩
  refine And.intro (fun e => ⟨⟨_, rfl, rfl, rfl⟩, .inl ⟨_, _, _, awake_spec _, fun S' x hS hx => ⟨rfl, x, rfl, hx⟩⟩⟩) (fun e => ?_)
  have hn : l.length ≤ 60 := (small hx e).2
  have hm0 := hm.le hS0
  have hr0 := hr.le hS0
  refine ⟨⟨_, rfl, rfl, rfl⟩, .inl ⟨_, _, _, ref_apply_spec S0 b m hm0 h1 (none, 0, 0) [] rfl ⟨.inl rfl, by simp⟩ (by simp), fun S1 w hS1 ⟨ws, hw1, hw2, hw3⟩ => ?_⟩⟩
  have hm1 := hm0.le hS1
  have hr1 := hr0.le hS1
  refine ⟨⟨_, rfl, rfl, rfl⟩, .inl ⟨_, _, _, apply_spec S1 b m hm1 h1 (p, l.length, c) l rfl hr1 (by omega), fun S2 y hS2 ⟨es, hy1, hy2, hy3⟩ => ?_⟩⟩
  refine ⟨⟨_, rfl, rfl, rfl⟩, .inl ⟨_, _, _, of_spec S2 (p, l.length, c) l rfl (hr1.le hS2) (by omega), fun S3 v hS3 ⟨hv1, hv2⟩ => ?_⟩⟩
  have hm3 := (hm1.le hS2).le hS3
  have hr3 := (hr1.le hS2).le hS3
  refine ⟨⟨_, rfl, rfl, rfl⟩, .inl ⟨_, _, _, ref_apply_spec S3 b m hm3 h1 v l hv1.symm hv2 (by omega), fun S4 z hS4 ⟨fs, hz1, hz2, hz3⟩ => ?_⟩⟩
  refine ⟨⟨_, rfl, rfl, rfl⟩, .inl ⟨_, _, _, same_spec S4 y z es fs ((hy1.le hS3).le hS4) hy2 hz1 hz2, fun S5 x5 hS5 hx5 => ?_⟩⟩
  have hx5' : x5 = true := by
    have : x5 = true ↔ ∀ k, get es k = get fs k := hx5
    rw [this]
    intro k
    rw [hy3, hz3]
  clear hx5
  subst hx5'
  have hm5 := (hm3.le hS4).le hS5
  have hr5 := (hr3.le hS4).le hS5
  refine onF ⟨⟨_, rfl, rfl, rfl⟩, .inl ⟨_, _, _, same_spec S5 b w m ws hm5 h1 ((((hw1.le hS2).le hS3).le hS4).le hS5) hw2, fun S6 x6 hS6 hx6 => ?_⟩⟩
  have hx6' : x6 = true := by
    have : x6 = true ↔ ∀ k, get m k = get ws k := hx6
    rw [this]
    intro k
    rw [hw3]
    rfl
  clear hx6
  subst hx6'
  have hr6 := hr5.le hS6
  refine onF ?_
  refine ⟨[], [], Nat, [7, 8, 9, 10, 11, 12, 34, 35, 36, 37, 38, 39, 40, 41, 42, 43, 44, 45, 46, 47, 48, 49, 50, 51, 52, 53, 54, 55, 56, 57, 58, 59, 60, 61, 62, 63, 64, 65, 66, 67, 68, 69, 70, 71, 72, 73, 74, 75, 76, 77, 78, 79, 80, 81, 82, 83, 84, 85, 86, 87, 88, 89, 90, 91], fun i => [(6, .c (.v (.int .i64 i)))], fun _ => [], fun _ => S6, fun i => 1 ≤ i ∧ i ≤ 61, fun i => 61 - i, ?_⟩
  refine And.intro (Exists.intro 1 (And.intro (And.intro (And.intro ?_ rfl) (And.intro rfl (Store.le_refl _))) ⟨Nat.le_refl _, by omega⟩)) ?_
  · repeat' first | exact trivial | exact rfl | refine And.intro ?_ ?_
  rintro i ⟨hi1, hi2⟩
  refine And.intro (fun h => ?_) (fun h => ⟨⟨_, rfl, rfl, rfl⟩, .inl ⟨_, _, _, awake_spec _, fun S' x hS hx => ⟨rfl, x, rfl, hx⟩⟩⟩)
  have hil : i < l.length := by simpa using h
  obtain ⟨j, rfl⟩ : ∃ j, i = j + 1 := ⟨i - 1, by omega⟩
  have hy : l[j + 1]? = some l[j + 1] := List.getElem?_eq_getElem hil
  have hx0 : l[j]? = some l[j] := List.getElem?_eq_getElem (by omega)
  obtain ⟨b1, o1, hp1, hk1, hd1⟩ := row_at hr6 hx0
  obtain ⟨b2, o2, hp2, hk2, hd2⟩ := row_at hr6 hy
  generalize l[j] = u at hk1 hd1 hx0
  generalize l[j + 1] = v at hk2 hd2 hy
  have hw : IntKind.i64.wrap (((j + 1 : Nat) : Int) - 1) = ((j : Nat) : Int) := by rw [wrap_i64 (by omega) (by omega)]; omega
  have j0 : (0 : Int) ≤ ((j : Nat) : Int) := Int.natCast_nonneg _
  have j1 : ((j : Nat) : Int) < (l.length : Int) := by omega
  have i0 : (0 : Int) ≤ ((j + 1 : Nat) : Int) := Int.natCast_nonneg _
  have i1 : ((j + 1 : Nat) : Int) < (l.length : Int) := by omega
  refine ⟨orTell, [0, 1], [], by kernel_rfl, _, hw, j0, j1, b1, o1, hp1, u, hk1, hd1, i0, i1, b2, o2, hp2, v, hk2, hd2, ?_⟩
  refine ⟨?_, ?_, trivial⟩
  all_goals
    refine ⟨or3_10, [2], oF3_10, by kernel_rfl, _, hw, j0, j1, b1, o1, hp1, u, hk1, hd1, i0, i1, b2, o2, hp2, v, hk2, hd2, ⟨⟨_, rfl, rfl, rfl⟩, .inl ⟨_, _, _, merge_spec S6 u v, fun S7 y hS7 hy7 => ?_⟩⟩, ⟨⟨_, rfl, rfl, rfl⟩, .inl ⟨_, _, _, merge_spec S6 u v, fun S7 y hS7 hy7 => ?_⟩⟩, trivial⟩
    all_goals
      have hy7' : y = merge u v := hy7
      clear hy7
      refine ⟨⟨_, rfl, rfl, rfl⟩, .inl ⟨_, _, _, ref_merge_spec S7 u v, fun S8 y' hS8 hy8 => ?_⟩⟩
      have hy8' : y' = y := (show y' = merge u v from hy8).trans hy7'.symm
      clear hy8
      subst hy8'
      clear hy7'
      obtain ⟨⟨q1, q2, q3⟩, k⟩ := y'
      have hd1' := Store.rd_le (Store.le_trans hS7 hS8) hd1
      have hd2' := Store.rd_le (Store.le_trans hS7 hS8) hd2
      refine ⟨or3_12, [], oF3_12, by kernel_rfl, ?_⟩
      cases k
      all_goals
        refine onF ⟨fun e => absurd e (by simp), fun _ => ?_⟩
        refine ⟨_, hw, j0, j1, b1, o1, hp1, u, hk1, hd1', i0, i1, b2, o2, hp2, v, hk2, hd2', ⟨⟨_, rfl, rfl, rfl⟩, .inl ⟨_, _, _, commute_spec S8 u v, fun S9 x9 hS9 hx9 => ?_⟩⟩⟩
        refine ⟨⟨_, rfl, rfl, rfl⟩, .inl ⟨_, _, _, ref_commute_spec S9 u v, fun S10 x10 hS10 hx10 => ?_⟩⟩
        have hxx : x10 = x9 := (show x10 = commute u v from hx10).trans (show x9 = commute u v from hx9).symm
        clear hx9 hx10
        subst hxx
        refine ⟨fun e => absurd e (by simp), fun _ => ⟨((j + 2 : Nat) : Int), wrap_i64 (by omega) (by omega), j + 2, ⟨⟨?_, rfl⟩, rfl, Store.le_trans (Store.le_trans hS7 hS8) (Store.le_trans hS9 hS10)⟩, ⟨by omega, by omega⟩, ?_⟩⟩
        · repeat' first | exact trivial | exact rfl | refine And.intro ?_ ?_
        · show 61 - (j + 2) < 61 - (j + 1)
          omega
end Go.Proofs.Ytfchicmekieclaa

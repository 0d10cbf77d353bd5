/- law15: awake. -/
import Derived.Test.YtdkdepibclhkmaaFh
namespace Go.Proofs.Ytdkdepibclhkmaa
open Go Go.Vc
set_option maxRecDepth 100000

@[reducible] def ex3 : List It := [(4, 1, 3), (5, 2, 6), (6, 5, 5)]
theorem ex_bag : bagOf ex3 = ex3 := by decide
theorem ex_kept : keptOf ex3 [4] [7] = [(5, 2, 6), (6, 5, 5)] := by decide
theorem ex_gone : goneOf ex3 [4] [7] = [4] := by decide
theorem ex_sorted : sorted [4] = [4] := by simp [sorted]
theorem ex_bound : boundOf ex3 [4] [7] = 2 := by decide

set_option maxHeartbeats 1000000 in
theorem awake_spec (S : Store) : Pure Try.prog 9 S [] rB (fun _ b => b = true) := by
  refine pure_vc agrees Try.func9 rfl rfl (fun S S' q hle h => h) ?_
  refine ⟨⟨_, rfl, rfl, rfl⟩, .inl fun p c S1 hS1 hr1 _ => ⟨_, _, _, bag_spec S1 (p, _, c) ex3 rfl hr1 (by decide), fun S2 z hS2 hz => ?_⟩⟩
  obtain ⟨b, l, cs⟩ := z
  have hz : (b.2.1 = (bagOf ex3).length ∧ RowRd S2 b.1 shT (bagOf ex3)) ∧ l.2.1 = (bagOf ex3).length ∧ RowRd S2 l.1 shT (bagOf ex3) := hz
  rw [ex_bag] at hz
  obtain ⟨⟨hb1, hb2⟩, hl1, hl2⟩ := hz
  refine ⟨⟨_, rfl, rfl, rfl⟩, .inl fun p1 c1 S3 hS3 hr3 _ p2 c2 S4 hS4 hr4 _ => ⟨_, _, _, sweep_spec S4 b (p1, _, c1) (p2, _, c2) ex3 [4] [7] hb1.symm (hb2.le (Store.le_trans hS3 hS4)) rfl (hr3.le hS4) rfl hr4 (by decide) (by decide) (by decide), fun S5 y hS5 hy => ?_⟩⟩
  obtain ⟨k, g⟩ := y
  have hy : (k.2.1 = (keptOf ex3 [4] [7]).length ∧ RowRd S5 k.1 shT (keptOf ex3 [4] [7])) ∧ g.2.1 = (goneOf ex3 [4] [7]).length ∧ RowRd S5 g.1 shI (sorted (goneOf ex3 [4] [7])) := hy
  rw [ex_kept, ex_gone, ex_sorted] at hy
  obtain ⟨⟨hk1, hk2⟩, hg1, hg2⟩ := hy
  have hb2 := hb2.le (Store.le_trans (Store.le_trans hS3 hS4) hS5)
  have hl1 : l.2.1 = 3 := hl1
  have hk1 : k.2.1 = 2 := hk1
  have hg1 : g.2.1 = 1 := hg1
  refine onE (by rw [hl1]; rfl) ⟨⟨_, rfl, rfl, rfl⟩, .inl ⟨_, _, _, len_spec S5 k, fun S6 n hS6 hn => ?_⟩⟩
  have hn : n = ((k.2.1 : Nat) : Int) := hn
  rw [hk1] at hn
  refine onE (by rw [hn]; rfl) ?_
  refine onE (by rw [hg1]; rfl) ?_
  obtain ⟨b1, o1, hp, hok, hrd⟩ := row_at (hg2.le hS6) (i := 0) (x := (4 : Int)) rfl
  refine ⟨by decide, by rw [hg1]; decide, b1, o1, hp, (4 : Int), trivial, hrd, ?_⟩
  refine onE rfl ?_
  have hb6 := hb2.le hS6
  refine ⟨⟨_, rfl, rfl, rfl⟩, .inl ⟨_, _, _, items_spec S6 b ex3 hb1.symm hb6 (by decide), fun S7 q hS7 hq => ?_⟩⟩
  have hq : q.2.1 = ex3.length ∧ RowRd S7 q.1 shT ex3 := hq
  refine ⟨⟨_, rfl, rfl, rfl⟩, .inl fun p1 c1 S8 hS8 hr8 _ p2 c2 S9 hS9 hr9 _ => ⟨_, _, _, bound_spec S9 (p1, _, c1) (p2, _, c2) q [4] [7] ex3 rfl (hr8.le hS9) rfl hr9 hq.1.symm (hq.2.le (Store.le_trans hS8 hS9)) (by decide) (by decide) (by decide), fun S10 n hS10 hn => ?_⟩⟩
  have hn : n = ((boundOf ex3 [4] [7] : Nat) : Int) := hn
  rw [ex_bound] at hn
  exact ⟨rfl, _, rfl, by rw [hn]; rfl⟩
end Go.Proofs.Ytdkdepibclhkmaa
